/-
  Configurations by value. And what stood behind it in 6 texts.
  Conditions: said at the theorems.
-/
import Derived.Test.YthodldbjhlpjhaaGreatDoorK15
import Derived.Test.YthodldbjhlpjhaaGreatDoorRepW
set_option linter.all false
namespace Go.Proofs.YthodldbjhlpjhaaGreatDoor
open Go.Ev Go.Pv
instance dec4:DecidableEq (Int×Int×Int×Int):=inferInstance
theorem Qlh {p:Cl8→Bool}:∀ {l:List Cl8},(∀ y∈l,p y=true)→l.takeWhile p=l
 | [],_=>rfl
 | z::l,h=>by rw [List.takeWhile_cons,if_pos (h z (by simp)),Qlh (fun y hy=>h y (by simp [hy]))]
def putV (l:List Cl8) (x:Cl8):List Cl8:=(l.takeWhile fun y=>decide (y.1 < x.1))++x::l.dropWhile fun y=>decide (y.1 < x.1)
def insV (l:List Cl8):List Cl8:=foldI (fun x _ t=>putV t x) l 0 []
theorem Qb3 {l:List Cl8} {x:Cl8}:(putV l x).Perm (x::l):=by
 unfold putV
 refine List.perm_middle.trans (List.Perm.cons x ?_)
 rw [List.takeWhile_append_dropWhile]
theorem Qjn {l:List Cl8} {x:Cl8}:(putV l x).length=l.length+1:=by rw [Qb3.length_eq];rfl
theorem Q5x {x:Cl8}:∀ {l:List Cl8},Srt kyC l→∀ y∈l.dropWhile (fun y=>decide (y.1 < x.1)),x.1≤y.1
 | [],_,y,hy=>by simp at hy
 | z::l,h,y,hy=>by
  rw [List.dropWhile_cons] at hy
  have h':=List.pairwise_cons.1 h
  by_cases hz:z.1 < x.1
  ·rw [if_pos (by simpa using hz)] at hy
   exact Q5x h'.2 y hy
  ·rw [if_neg (by simpa using hz)] at hy
   rcases List.mem_cons.1 hy with rfl | hy
   ·omega
   ·have:=h'.1 y hy;unfold kyC at this;omega
theorem Q5y {x:Cl8}:∀ {l:List Cl8},∀ y∈l.takeWhile (fun y=>decide (y.1 < x.1)),y.1 < x.1
 | [],y,hy=>by simp at hy
 | z::l,y,hy=>by
  rw [List.takeWhile_cons] at hy
  by_cases hz:z.1 < x.1
  ·rw [if_pos (by simpa using hz)] at hy
   rcases List.mem_cons.1 hy with rfl | hy
   ·exact hz
   ·exact Q5y y hy
  ·rw [if_neg (by simpa using hz)] at hy;simp at hy
theorem Qjo {l:List Cl8} {x:Cl8} (h:Srt kyC l):Srt kyC (putV l x):=by
 have hl:Srt kyC (l.takeWhile (fun y=>decide (y.1 < x.1))++l.dropWhile (fun y=>decide (y.1 < x.1))):=by rw [List.takeWhile_append_dropWhile];exact h
 unfold putV Srt
 unfold Srt at hl
 rw [List.pairwise_append] at hl ⊢
 refine ⟨hl.1,List.pairwise_cons.2 ⟨fun y hy=>Q5x h y hy,hl.2.1⟩,fun a ha b hb=>?_⟩
 rcases List.mem_cons.1 hb with rfl | hb
 ·have:=Q5y a ha;unfold kyC;omega
 ·exact hl.2.2 a ha b hb
theorem Q9l:∀ (l:List Cl8) (i:Nat) (t:List Cl8),Srt kyC t→Srt kyC (foldI (fun x _ t=>putV t x) l i t)∧(foldI (fun x _ t=>putV t x) l i t).Perm (l++t)
 | [],i,t,h=>⟨h,List.Perm.refl _⟩
 | x::r,i,t,h=>by
  simp only [foldI]
  obtain ⟨h1,h2⟩:=Q9l r (i+1) (putV t x) (Qjo h)
  refine ⟨h1,h2.trans ?_⟩
  exact (List.Perm.append_left r Qb3).trans List.perm_middle
theorem Qjp {l:List Cl8}:Srt kyC (insV l):=(Q9l l 0 [] List.Pairwise.nil).1
theorem Q2s {l:List Cl8}:(insV l).Perm l:=by
 have:=(Q9l l 0 [] List.Pairwise.nil).2
 rw [List.append_nil] at this;exact this
theorem Qgx {l:List Cl8} (h:idsB l=true):(l.map (·.1)).Nodup:=by
 rw [List.nodup_iff_pairwise_ne,List.pairwise_map,List.pairwise_iff_getElem]
 intro i j hi hj hij e
 have:=Qep h j i _ _ hij (List.getElem?_eq_getElem hi) (List.getElem?_eq_getElem hj)
 omega
theorem Qma {l:List Cl8} (h:(l.map (·.1)).Nodup) {a b:Cl8} (ha:a∈l) (hb:b∈l) (e:a.1=b.1):a=b:=by
 obtain ⟨i,hi⟩:=List.getElem?_of_mem ha
 obtain ⟨j,hj⟩:=List.getElem?_of_mem hb
 obtain ⟨hi1,hi2⟩:=List.getElem?_eq_some_iff.1 hi
 obtain ⟨hj1,hj2⟩:=List.getElem?_eq_some_iff.1 hj
 have:=(List.getElem_inj (h₀:=show i < (l.map (·.1)).length by simpa using hi1) (h₁:=show j < (l.map (·.1)).length by simpa using hj1) h).1 (by simp [hi2,hj2,e])
 subst this
 rw [← hi2,← hj2]
theorem Qoh {l S:List Cl8} (h:Stb kyC l S) (hd:(l.map (·.1)).Nodup):S=insV l:=by
 refine List.Perm.eq_of_pairwise (le:=fun a b=>kyC a≤kyC b) (fun a b ha hb h1 h2=>?_) h.srt Qjp (h.perm.trans Q2s.symm)
 unfold kyC at h1 h2
 exact Qma hd (h.perm.mem_iff.1 ha) (Q2s.mem_iff.1 hb) (by omega)
theorem Qee {c:Cf} {l:List Cl8} (h:gdB c=true) (hp:c.2.1.Perm l):(l.map (·.1)).Nodup:=by
 have hc:=(Qhq h).cl
 unfold clsB at hc
 simp only [Bool.and_eq_true] at hc
 exact (hp.map _).nodup_iff.1 (Qgx hc.2.1)
def dfL (x:Ld):Int:=if 0≤x.2.2.2.2.2.2.2.2∧x.2.2.2.2.2.2.2.2 < ((x.2.1.length:Nat):Int) then (clAt x.2.1 x.2.2.2.2.2.2.2.2).1 else 0
def unV (x:Ld):Cf:=(x.1,insV x.2.1,x.2.2.2.2.2.2.1,dfL x)
theorem Qqe {x:Ld} {c:Cf} (h1:c.1=x.1) (h2:Stb kyC x.2.1 c.2.1) (h3:c.2.2.1=x.2.2.2.2.2.2.1) (h4:c.2.2.2=dfL x):gdB c=gdB (unV x)∧(gdB (unV x)=true→c=unV x):=by
 obtain ⟨c1,c2,c3,c4⟩:=c
 simp only at h1 h2 h3 h4
 subst h1 h3 h4
 by_cases hd:(x.2.1.map (·.1)).Nodup
 ·have e:=Qoh h2 hd
  subst e
  exact ⟨rfl,fun _=>rfl⟩
 ·have e1:gdB (x.1,c2,x.2.2.2.2.2.2.1,dfL x)=false:=Bool.eq_false_iff.2 fun h=>hd (Qee h h2.perm)
  have e2:gdB (unV x)=false:=Bool.eq_false_iff.2 fun h=>hd (Qee h Q2s)
  exact ⟨by rw [e1,e2],fun h=>by rw [e2] at h;simp at h⟩
theorem Qgy {d:Nat} {l:List Cl8} {b:Bool} (hl:l.length≤1000000):Ok (g80 (d+25) l b) fun r=>Stb kyC l r:=by
 rw [e80]
 exact Ok.bind (Qi2 hl) fun r hr=>Ok.some hr
theorem Qjq {d:Nat} {x:Ld} (hl:x.2.1.length≤1000) (hf:x.2.2.2.2.2.2.1.length≤1000):Ok (g50 (d+26) x) fun c=>c.1=x.1∧Stb kyC x.2.1 c.2.1∧c.2.2.1=x.2.2.2.2.2.2.1∧c.2.2.2=dfL x:=by
 rw [e50,Qki hl,Q6,Qev hf,Q6]
 unfold j50_0 dfL
 by_cases h0:x.2.2.2.2.2.2.2.2≥0
 ·rw [decide_eq_true h0,Q2]
  by_cases h1:x.2.2.2.2.2.2.2.2 < ((x.2.1.length:Nat):Int)
  ·rw [decide_eq_true h1,Q2,Q2,Q2c h0 h1,Q6,if_pos ⟨h0,h1⟩]
   exact Ok.bind (Qgy (by omega)) fun r hr=>Ok.some ⟨rfl,hr,rfl,rfl⟩
  ·rw [decide_eq_false h1,Q4,if_neg (fun h=>h1 h.2)]
   exact Ok.bind (Qgy (by omega)) fun r hr=>Ok.some ⟨rfl,hr,rfl,rfl⟩
 ·rw [decide_eq_false h0,Q4,Q4,if_neg (fun h=>h0 h.1)]
  exact Ok.bind (Qgy (by omega)) fun r hr=>Ok.some ⟨rfl,hr,rfl,rfl⟩
theorem Qmb {d:Nat} {l:List Cl8} {x:Cl8} (hl:l.length≤10000):g123 (d+1) l x=some (putV l x):=by
 rw [Qqv]
 have fin:j123_0 d l x (((l.takeWhile fun y=>decide (y.1 < x.1)).length:Nat):Int)=some (putV l x):=by
  have hle:(l.takeWhile fun y=>decide (y.1 < x.1)).length≤l.length:=by
   have:=congrArg List.length (List.takeWhile_append_dropWhile (p:=fun y:Cl8=>decide (y.1 < x.1)) (l:=l))
   rw [List.length_append] at this;omega
  have ht:l.take (l.takeWhile fun y=>decide (y.1 < x.1)).length=l.takeWhile fun y=>decide (y.1 < x.1):=by
   conv=>lhs;arg 2;rw [← List.takeWhile_append_dropWhile (p:=fun y:Cl8=>decide (y.1 < x.1)) (l:=l)]
   rw [List.take_left]
  have hd:l.drop (l.takeWhile fun y=>decide (y.1 < x.1)).length=l.dropWhile fun y=>decide (y.1 < x.1):=by
   conv=>lhs;arg 2;rw [← List.takeWhile_append_dropWhile (p:=fun y:Cl8=>decide (y.1 < x.1)) (l:=l)]
   rw [List.drop_left]
  unfold j123_0
  simp only [nn,Q3,Q2]
  rw [Qhg hle,Q2,Q2,room (by simp;omega),Q2,room (by simp;omega),Q2,room (by simp;omega),Q2,ht,hd]
  unfold putV
  simp
 have key:∀ (B A:List Cl8) (fuel:Nat),l=A++B→(∀ y∈A,y.1 < x.1)→B.length < fuel→iterP (l123_0 d l x (j123_0 d l x)) fuel ((A.length:Nat):Int)=some (putV l x):=by
  intro B
  induction B with
  | nil =>
   intro A fuel e hA hf
   obtain ⟨g,rfl⟩:∃ g,fuel=g+1:=⟨fuel - 1,by omega⟩
   rw [List.append_nil] at e
   have ht:(l.takeWhile fun y=>decide (y.1 < x.1))=A:=by rw [e];exact Qlh (fun y hy=>by simpa using hA y hy)
   simp only [iterP,l123_0,l123_0_b]
   rw [show (l.length:Int)=((A.length:Nat):Int) by rw [e],ltn,Q4]
   rw [ht] at fin;exact fin
  | cons z B ih =>
   intro A fuel e hA hf
   obtain ⟨g,rfl⟩:∃ g,fuel=g+1:=⟨fuel - 1,by omega⟩
   have hlt:A.length < l.length:=by rw [e];simp
   have hg:l[A.length]? = some z:=by rw [e];simp
   simp only [iterP,l123_0,l123_0_b]
   rw [decide_eq_true (show ((A.length:Nat):Int) < ((l.length:Nat):Int) by omega),Q2,nn,Q2,Q3,hg,Q6]
   by_cases hz:z.1 < x.1
   ·rw [decide_eq_true hz,Q2,wr1 (by omega)]
    have:=ih (A++[z]) g (by rw [e];simp) (fun y hy=>by
     rcases List.mem_append.1 hy with h | h
     ·exact hA y h
     ·simp at h;subst h;exact hz) (by simpa using hf)
    rw [List.length_append] at this
    exact this
   ·rw [decide_eq_false hz,Q4]
    have ht:(l.takeWhile fun y=>decide (y.1 < x.1))=A:=by
     rw [e,List.takeWhile_append_of_pos (fun y hy=>by simpa using hA y hy),List.takeWhile_cons,if_neg (by simpa using hz),List.append_nil]
    rw [ht] at fin;exact fin
 exact key l [] fuelN rfl (by simp) (by rw [Q5];omega)
theorem Qjr {d:Nat} {x:Ld} (hl:x.2.1.length≤1000) (hf:x.2.2.2.2.2.2.1.length≤1000):g96 (d+2) x=some (unV x):=by
 rw [e96,room (by simp;omega),Q2,List.nil_append]
 refine (Q7 (fun (t:List Cl8) (i:Int)=>(i,((x.1,t,x.2.2.2.2.2.2.1,0):Cf))) x.2.1 (fun y _ t k=>obind (g123 (d+1) t y) fun r=>k r) (fun t=>j96_0 (d+1) x x.1 0 t x.2.2.2.2.2.2.1) ?_ ?_ (by rw [Q5];omega) []).trans ?_
 ·intro ag t i y hx
  have hi:=(List.getElem?_eq_some_iff.1 hx).1
  simp only [l96_0,l96_0_b,ltl hx,nn,Q3,hx,Q6,Q2]
  rw [wr1 (by omega)]
 ·intro ag t;simp only [l96_0,l96_0_b,ltn,Q4]
 ·rw [Q2u (f:=fun y _ t=>putV t y) (fun k t=>t.length=k) x.2.1 0 [] rfl (fun j y t k hy ht=>by
   have hj:=(List.getElem?_eq_some_iff.1 hy).1
   rw [Qmb (by omega),Q6]
   exact ⟨rfl,by rw [Qjn];omega⟩)]
  unfold j96_0
  rw [Q2o,Q6]
  show _=some (x.1,insV x.2.1,x.2.2.2.2.2.2.1,dfL x)
  unfold dfL
  rw [wr (by omega) (by omega)]
  by_cases h:0≤x.2.2.2.2.2.2.2.2∧x.2.2.2.2.2.2.2.2 < ((x.2.1.length:Nat):Int)
  ·rw [if_pos h,decide_eq_true (show 0≤x.2.2.2.2.2.2.2.2∧x.2.2.2.2.2.2.2.2≤((x.2.1.length:Nat):Int) - 1 by omega),Q2,decide_eq_true h.1,Q2,Q2c h.1 h.2,Q6]
   rfl
  ·rw [if_neg h,decide_eq_false (show ¬ (0≤x.2.2.2.2.2.2.2.2∧x.2.2.2.2.2.2.2.2≤((x.2.1.length:Nat):Int) - 1) by omega),Q4]
   rfl
theorem Q3c {α:Type} [DecidableEq α]:∀ {a b:List α} {i:Nat} {c:List α},i=c.length→a.length=b.length→allI (fun x j=>decide ((c++b)[j]? = some x)) a i=decide (a=b)
 | [],[],i,c,_,_=>by simp [allI]
 | x::a,y::b,i,c,hi,h=>by
  subst hi
  have h1:(c++y::b)[c.length]? = some y:=by simp
  have ih:=Q3c (a:=a) (b:=b) (i:=c.length+1) (c:=c++[y]) (by simp) (by simpa using h)
  rw [show c++[y]++b=c++y::b by simp] at ih
  simp only [allI]
  rw [ih,h1]
  by_cases hxy:x=y
  ·subst hxy;simp
  ·rw [decide_eq_false (show ¬ some y=some x by simp;exact fun e=>hxy e.symm),Bool.false_and,decide_eq_false (by simp [hxy])]
 | [],_::_,_,_,_,h=>by simp at h
 | _::_,[],_,_,_,h=>by simp at h
theorem Qgz {d:Nat} {a b:List Int} (hl:a.length < 4000000):g54 (d+1) a b=some (decide (a=b)):=by
 rw [e54]
 by_cases h:a.length=b.length
 case neg=>rw [show ((((a.length:Nat):Int)) != ((b.length:Nat):Int))=true by simp;omega,Q2,decide_eq_false (fun e=>h (by rw [e]))]
 rw [show ((((a.length:Nat):Int)) != ((b.length:Nat):Int))=false by simp;omega,Q4]
 refine (Q7 (fun (t:Bool) (i:Int)=>(t,i)) a (fun x i t k=>oif (decide (([]++b)[i]? = some x)) (k t) (some false)) (fun _=>some true) ?_ ?_ (by rw [Q5];omega) false).trans ?_
 ·intro ag t i x hx;have hi:=(List.getElem?_eq_some_iff.1 hx).1;simp only [l54_0,l54_0_b,ltl hx,nn,Q3,hx,Q6,Q2];rw [wr1 (by omega)]
  have hb:i < b.length:=by omega
  rw [List.nil_append,List.getElem?_eq_getElem hb,Q6]
  by_cases hxy:x=b[i]
  ·rw [show (x != b[i])=false by simp [hxy],Q4,decide_eq_true (by rw [hxy]),Q2]
  ·rw [show (x != b[i])=true by simp [hxy],Q2,decide_eq_false (show ¬ some b[i]=some x by simp;exact fun e=>hxy e.symm),Q4]
 ·intro ag t;simp only [l54_0,l54_0_b,ltn,Q4];rfl
 ·rw [Qo,Q3c (i:=0) (c:=[]) rfl h];cases decide (a=b)<;>rfl
theorem Q4g {d:Nat} {a b:List Int} (hl:a.length < 4000000):g128 (d+1) a b=some (decide (a=b)):=by
 rw [Qra]
 by_cases h:a.length=b.length
 case neg=>rw [show ((((a.length:Nat):Int)) != ((b.length:Nat):Int))=true by simp;omega,Q2,decide_eq_false (fun e=>h (by rw [e]))]
 rw [show ((((a.length:Nat):Int)) != ((b.length:Nat):Int))=false by simp;omega,Q4]
 refine (Q7 (fun (t:Bool) (i:Int)=>(t,i)) a (fun x i t k=>oif (decide (([]++b)[i]? = some x)) (k t) (some false)) (fun _=>some true) ?_ ?_ (by rw [Q5];omega) false).trans ?_
 ·intro ag t i x hx;have hi:=(List.getElem?_eq_some_iff.1 hx).1;simp only [l128_0,l128_0_b,ltl hx,nn,Q3,hx,Q6,Q2];rw [wr1 (by omega)]
  have hb:i < b.length:=by omega
  rw [List.nil_append,List.getElem?_eq_getElem hb,Q6]
  by_cases hxy:x=b[i]
  ·rw [show (x != b[i])=false by simp [hxy],Q4,decide_eq_true (by rw [hxy]),Q2]
  ·rw [show (x != b[i])=true by simp [hxy],Q2,decide_eq_false (show ¬ some b[i]=some x by simp;exact fun e=>hxy e.symm),Q4]
 ·intro ag t;simp only [l128_0,l128_0_b,ltn,Q4];rfl
 ·rw [Qo,Q3c (i:=0) (c:=[]) rfl h];cases decide (a=b)<;>rfl
theorem Qli {x y:Cl8}:((x.1==y.1)&&((x.2.1==y.2.1)&&((x.2.2.1==y.2.2.1)&&((x.2.2.2.1==y.2.2.2.1)&&((x.2.2.2.2.1==y.2.2.2.2.1)&&((x.2.2.2.2.2.1==y.2.2.2.2.2.1)&&((x.2.2.2.2.2.2.1==y.2.2.2.2.2.2.1)&&((x.2.2.2.2.2.2.2==y.2.2.2.2.2.2.2)&&true))))))))=decide (x=y):=by
 obtain ⟨x1,x2,x3,x4,x5,x6,x7,x8⟩:=x
 obtain ⟨y1,y2,y3,y4,y5,y6,y7,y8⟩:=y
 rw [Bool.eq_iff_iff];simp
theorem Qoi {x y:Fl5}:((x.1==y.1)&&((x.2.1==y.2.1)&&((x.2.2.1==y.2.2.1)&&((x.2.2.2.1==y.2.2.2.1)&&((x.2.2.2.2==y.2.2.2.2)&&true)))))=decide (x=y):=by
 obtain ⟨x1,x2,x3,x4,x5⟩:=x
 obtain ⟨y1,y2,y3,y4,y5⟩:=y
 rw [Bool.eq_iff_iff];simp
theorem Qqf {d:Nat} {a b:List Cl8} (hl:a.length < 4000000):g53 (d+1) a b=some (decide (a=b)):=by
 rw [e53]
 by_cases h:a.length=b.length
 case neg=>rw [show ((((a.length:Nat):Int)) != ((b.length:Nat):Int))=true by simp;omega,Q2,decide_eq_false (fun e=>h (by rw [e]))]
 rw [show ((((a.length:Nat):Int)) != ((b.length:Nat):Int))=false by simp;omega,Q4]
 refine (Q7 (fun (t:Bool) (i:Int)=>(t,i)) a (fun x i t k=>oif (decide (([]++b)[i]? = some x)) (k t) (some false)) (fun _=>some true) ?_ ?_ (by rw [Q5];omega) false).trans ?_
 ·intro ag t i x hx;have hi:=(List.getElem?_eq_some_iff.1 hx).1;simp only [l53_0,l53_0_b,ltl hx,nn,Q3,hx,Q6,Q2];rw [wr1 (by omega)]
  have hb:i < b.length:=by omega
  rw [List.nil_append,List.getElem?_eq_getElem hb,Q6,Qli]
  by_cases hxy:x=b[i]
  ·rw [decide_eq_true hxy,Bool.not_true,Q4,decide_eq_true (by rw [hxy]),Q2]
  ·rw [decide_eq_false hxy,Bool.not_false,Q2,decide_eq_false (show ¬ some b[i]=some x by simp;exact fun e=>hxy e.symm),Q4]
 ·intro ag t;simp only [l53_0,l53_0_b,ltn,Q4];rfl
 ·rw [Qo,Q3c (i:=0) (c:=[]) rfl h];cases decide (a=b)<;>rfl
def smB (x y:Ld):Bool:=decide (x.2.1=y.2.1)&&(decide (x.2.2.1=y.2.2.1)&&(decide (x.2.2.2.1=y.2.2.2.1)&&(decide (x.2.2.2.2.1=y.2.2.2.2.1)&&(decide (x.2.2.2.2.2.1=y.2.2.2.2.2.1)&&(decide (x.2.2.2.2.2.2.2.1=y.2.2.2.2.2.2.2.1)&&(x.2.2.2.2.2.2.2.2==y.2.2.2.2.2.2.2.2))))))
def lgB (x:Ld):Bool:=decide (x.2.1.length≤24∧x.2.2.2.2.2.2.1.length≤16)&&(gdB (unV x)&&smB x (ldV (unV x)))
def ldSz (x:Ld):Prop:=x.1.size < 4000000∧x.2.1.length < 4000000∧x.2.2.1.length < 4000000∧x.2.2.2.1.length < 4000000∧x.2.2.2.2.1.length < 4000000∧x.2.2.2.2.2.1.length < 4000000∧x.2.2.2.2.2.2.1.length < 4000000∧x.2.2.2.2.2.2.2.1.length < 4000000
theorem Qfm {d:Nat} {x:Ld} (h:ldSz x):g22 (d+27) x=some (lgB x):=by
 obtain ⟨z1,z2,z3,z4,z5,z6,z7,z8⟩:=h
 rw [e22]
 unfold j22_0 lgB
 by_cases h1:x.2.1.length≤24
 case neg=>rw [decide_eq_true (show ((x.2.1.length:Nat):Int) > 24 by omega),Q2,Q2,decide_eq_false (fun h=>h1 h.1)];rfl
 rw [decide_eq_false (show ¬ ((x.2.1.length:Nat):Int) > 24 by omega),Q4]
 by_cases h2:x.2.2.2.2.2.2.1.length≤16
 case neg=>rw [decide_eq_true (show ((x.2.2.2.2.2.2.1.length:Nat):Int) > 16 by omega),Q2,decide_eq_false (fun h=>h2 h.2)];rfl
 rw [decide_eq_false (show ¬ ((x.2.2.2.2.2.2.1.length:Nat):Int) > 16 by omega),Q4,decide_eq_true ⟨h1,h2⟩,Bool.true_and]
 obtain ⟨c,hc,c1,c2,c3,c4⟩:=Qjq (d:=d) (x:=x) (by omega) (by omega)
 obtain ⟨u1,u2⟩:=Qqe c1 c2 c3 c4
 have hcl:=c2.len
 rw [hc,Q6,show d+26=(d+18)+8 by omega,Qg6 (by omega) (by rw [c3];omega),Q6,u1]
 cases hg:gdB (unV x) with
 | false=>rfl
 | true =>
  have e:=u2 hg
  subst e
  rw [Bool.not_true,Q4,show d+18+8=(d+12)+14 by omega,Qbt (Qhq hg),Q6,Bool.true_and]
  unfold smB
  rw [show d+12+14=(d+25)+1 by omega,Qqf (by omega),Q6]
  cases decide (x.2.1=(ldV (unV x)).2.1) with
  | false=>rfl
  | true =>
  rw [Q2,Qgz (by omega),Q6]
  cases decide (x.2.2.1=(ldV (unV x)).2.2.1) with
  | false=>rfl
  | true =>
  rw [Q2,Qgz (by omega),Q6]
  cases decide (x.2.2.2.1=(ldV (unV x)).2.2.2.1) with
  | false=>rfl
  | true =>
  rw [Q2,Qgz (by omega),Q6]
  cases decide (x.2.2.2.2.1=(ldV (unV x)).2.2.2.2.1) with
  | false=>rfl
  | true =>
  rw [Q2,Qgz (by omega),Q6]
  cases decide (x.2.2.2.2.2.1=(ldV (unV x)).2.2.2.2.2.1) with
  | false=>rfl
  | true =>
  rw [Q2,Qgz (by omega),Q6]
  cases decide (x.2.2.2.2.2.2.2.1=(ldV (unV x)).2.2.2.2.2.2.2.1) with
  | false=>rfl
  | true=>rw [Q2];rfl
theorem Qjs {d:Nat} {u y:Ld} (h:ldSz u) (hn:u.1=y.1) (hf:u.2.2.2.2.2.2.1=y.2.2.2.2.2.2.1):g98 (d+2) u y=some (smB u y):=by
 obtain ⟨z1,z2,z3,z4,z5,z6,z7,z8⟩:=h
 rw [e98,Qk6,decide_eq_true (by rw [hn]),Bool.not_true,Q4]
 unfold j98_2 smB
 by_cases hc:u.2.1.length=y.2.1.length
 case neg=>rw [show ((((u.2.1.length:Nat):Int)) != ((y.2.1.length:Nat):Int))=true by simp;omega,Q2,Q2,decide_eq_false (fun e=>hc (by rw [e]))];rfl
 rw [show ((((u.2.1.length:Nat):Int)) != ((y.2.1.length:Nat):Int))=false by simp;omega,Q4,show ((((u.2.2.2.2.2.2.1.length:Nat):Int)) != ((y.2.2.2.2.2.2.1.length:Nat):Int))=false by rw [hf];simp,Q4]
 by_cases hd:u.2.2.2.2.2.2.2.2=y.2.2.2.2.2.2.2.2
 case neg=>rw [show (u.2.2.2.2.2.2.2.2 != y.2.2.2.2.2.2.2.2)=true by simp [hd],Q2,show (u.2.2.2.2.2.2.2.2==y.2.2.2.2.2.2.2.2)=false by simp [hd]];simp
 rw [show (u.2.2.2.2.2.2.2.2 != y.2.2.2.2.2.2.2.2)=false by simp [hd],Q4,show (u.2.2.2.2.2.2.2.2==y.2.2.2.2.2.2.2.2)=true by simp [hd],Bool.and_true]
 refine (Q7 (fun (t:Bool) (i:Int)=>(t,i)) u.2.1 (fun z i t k=>oif (decide (([]++y.2.1)[i]? = some z)) (k t) (some false)) (fun t=>j98_1 (d+1) u y t) ?_ ?_ (by rw [Q5];omega) false).trans ?_
 ·intro ag t i x hx;have hi:=(List.getElem?_eq_some_iff.1 hx).1;simp only [l98_0,l98_0_b,ltl hx,nn,Q3,hx,Q6,Q2];rw [wr1 (by omega)]
  have hb:i < y.2.1.length:=by omega
  rw [List.nil_append,List.getElem?_eq_getElem hb,Q6,Qli]
  by_cases hxy:x=y.2.1[i]
  ·rw [decide_eq_true hxy,Bool.not_true,Q4,decide_eq_true (by rw [hxy]),Q2]
  ·rw [decide_eq_false hxy,Bool.not_false,Q2,decide_eq_false (show ¬ some y.2.1[i]=some x by simp;exact fun e=>hxy e.symm),Q4]
 ·intro ag t;simp only [l98_0,l98_0_b,ltn,Q4]
 ·rw [Qo,Q3c (i:=0) (c:=[]) rfl hc]
  cases decide (u.2.1=y.2.1) with
  | false=>rfl
  | true =>
  rw [Q2,Bool.true_and]
  unfold j98_1
  have hfl:u.2.2.2.2.2.2.1.length=y.2.2.2.2.2.2.1.length:=by rw [hf]
  refine (Q7 (fun (t:Bool) (i:Int)=>(t,i)) u.2.2.2.2.2.2.1 (fun z i t k=>oif (decide (([]++y.2.2.2.2.2.2.1)[i]? = some z)) (k t) (some false)) (fun t=>j98_0 (d+1) u y t) ?_ ?_ (by rw [Q5];omega) false).trans ?_
  ·intro ag t i x hx;have hi:=(List.getElem?_eq_some_iff.1 hx).1;simp only [l98_1,l98_1_b,ltl hx,nn,Q3,hx,Q6,Q2];rw [wr1 (by omega)]
   have hb:i < y.2.2.2.2.2.2.1.length:=by omega
   rw [List.nil_append,List.getElem?_eq_getElem hb,Q6,Qoi]
   by_cases hxy:x=y.2.2.2.2.2.2.1[i]
   ·rw [decide_eq_true hxy,Bool.not_true,Q4,decide_eq_true (by rw [hxy]),Q2]
   ·rw [decide_eq_false hxy,Bool.not_false,Q2,decide_eq_false (show ¬ some y.2.2.2.2.2.2.1[i]=some x by simp;exact fun e=>hxy e.symm),Q4]
  ·intro ag t;simp only [l98_1,l98_1_b,ltn,Q4]
  ·rw [Qo,Q3c (i:=0) (c:=[]) rfl hfl,decide_eq_true hf,Q2]
   unfold j98_0
   rw [Q4g (by omega),Q6]
   cases decide (u.2.2.1=y.2.2.1) with
   | false=>rfl
   | true =>
   rw [Q2,Q4g (by omega),Q6]
   cases decide (u.2.2.2.1=y.2.2.2.1) with
   | false=>rfl
   | true =>
   rw [Q2,Q4g (by omega),Q6]
   cases decide (u.2.2.2.2.1=y.2.2.2.2.1) with
   | false=>rfl
   | true =>
   rw [Q2,Q4g (by omega),Q6]
   cases decide (u.2.2.2.2.2.1=y.2.2.2.2.2.1) with
   | false=>rfl
   | true=>rw [Q2,Q4g (by omega),Q6];rfl
theorem Qjt {d:Nat} {x:Ld} (h:ldSz x):g71 (d+11) x=some (lgB x):=by
 have h':=h
 obtain ⟨z1,z2,z3,z4,z5,z6,z7,z8⟩:=h
 rw [e71]
 unfold j71_0 lgB
 by_cases h1:x.2.1.length≤24
 case neg=>rw [decide_eq_true (show ((x.2.1.length:Nat):Int) > 24 by omega),Q2,Q2,decide_eq_false (fun h=>h1 h.1)];rfl
 rw [decide_eq_false (show ¬ ((x.2.1.length:Nat):Int) > 24 by omega),Q4]
 by_cases h2:x.2.2.2.2.2.2.1.length≤16
 case neg=>rw [decide_eq_true (show ((x.2.2.2.2.2.2.1.length:Nat):Int) > 16 by omega),Q2,decide_eq_false (fun h=>h2 h.2)];rfl
 rw [decide_eq_false (show ¬ ((x.2.2.2.2.2.2.1.length:Nat):Int) > 16 by omega),Q4,decide_eq_true ⟨h1,h2⟩,Bool.true_and]
 rw [show d+10=(d+8)+2 by omega,Qjr (by omega) (by omega),Q6,show d+8+2=(d+5)+5 by omega,Qkf (c:=unV x) z1 (show x.2.2.2.2.2.2.1.length < 4000000 by omega),Q6]
 cases hg:gdB (unV x) with
 | false=>rfl
 | true=>rw [Q2,show d+5+5=d+10 by omega,Qkh (Qhq hg),Q6,show d+10=(d+8)+2 by omega,Qjs (y:=ldV (unV x)) h' rfl rfl,Q6,Bool.true_and]
theorem Q4h {α:Type} {l:List α} {z x:α} {k:Nat} (hx:l[k]? = some x):(l.take k++List.replicate (l.length - k) z).set k x=l.take (k+1)++List.replicate (l.length - (k+1)) z:=by
 have hk:=(List.getElem?_eq_some_iff.1 hx).1
 have e:=(List.getElem?_eq_some_iff.1 hx).2
 have hl:(l.take k).length=k:=by rw [List.length_take];omega
 rw [List.set_append_right _ _ (by omega),hl,Nat.sub_self,show l.length - k=(l.length - (k+1))+1 by omega,List.replicate_succ,List.set_cons_zero,List.take_succ_eq_append_getElem hk,e]
 simp
theorem Qfn {d:Nat} {l:List Cl8} (hl:l.length≤1048576):g46 (d+2) l=some l:=by
 rw [e46,nn,Q2,Q2,Q3,show (Nat.ble l.length l.length&&Nat.ble (l.length*64) roomMax)=true by rw [Bool.and_eq_true,Nat.ble_eq,Nat.ble_eq];unfold roomMax;omega,Q2]
 refine Ok.val (Q0b (fun j (s:Int×List Cl8)=>∃ k:Nat,k+j=l.length∧s.1=(k:Int)∧s.2=l.take k++List.replicate (l.length - k) ((0,0,0,0,0,0,0,0):Cl8)) ?_ _ l.length _ (by rw [Q5];omega) ⟨0,by omega,rfl,by simp⟩)
 rintro j ⟨n,r⟩ ag ⟨k,hk,h1,h2⟩ hag
 simp only at h1 h2
 subst h1
 have hrl:r.length=l.length:=by rw [h2];simp;omega
 simp only [l46_0,l46_0_b]
 rcases Nat.lt_or_ge k l.length with hlt | hge
 ·have hx:=List.getElem?_eq_getElem hlt
  rw [ltl hx,Q2,nn,Q2,Q3,hx,Q6,e75,Q6,Q2,Qt (by omega),Q2,List.getElem?_eq_getElem (by omega),Q6,wr1 (by omega)]
  exact hag (j - 1) _ (by omega) ⟨k+1,by omega,rfl,by rw [h2];exact Q4h hx⟩
 ·have:k=l.length:=by omega
  subst this
  rw [ltn,Q4]
  unfold j46_0
  exact Ok.some (by rw [h2];simp)
theorem Qd7 {d:Nat} {l:List Fl5} (hl:l.length≤1048576):g48 (d+2) l=some l:=by
 rw [e48,nn,Q2,Q2,Q3,show (Nat.ble l.length l.length&&Nat.ble (l.length*40) roomMax)=true by rw [Bool.and_eq_true,Nat.ble_eq,Nat.ble_eq];unfold roomMax;omega,Q2]
 refine Ok.val (Q0b (fun j (s:Int×List Fl5)=>∃ k:Nat,k+j=l.length∧s.1=(k:Int)∧s.2=l.take k++List.replicate (l.length - k) ((0,0,0,0,0):Fl5)) ?_ _ l.length _ (by rw [Q5];omega) ⟨0,by omega,rfl,by simp⟩)
 rintro j ⟨n,r⟩ ag ⟨k,hk,h1,h2⟩ hag
 simp only at h1 h2
 subst h1
 have hrl:r.length=l.length:=by rw [h2];simp;omega
 simp only [l48_0,l48_0_b]
 rcases Nat.lt_or_ge k l.length with hlt | hge
 ·have hx:=List.getElem?_eq_getElem hlt
  rw [ltl hx,Q2,nn,Q2,Q3,hx,Q6,e76,Q6,Q2,Qt (by omega),Q2,List.getElem?_eq_getElem (by omega),Q6,wr1 (by omega)]
  exact hag (j - 1) _ (by omega) ⟨k+1,by omega,rfl,by rw [h2];exact Q4h hx⟩
 ·have:k=l.length:=by omega
  subst this
  rw [ltn,Q4]
  unfold j48_0
  exact Ok.some (by rw [h2];simp)
theorem Q28 {d:Nat} {l:List Int} (hl:l.length≤1048576):g47 (d+1) l=some l:=by
 rw [e47,nn,Q2,Q2,Q3,show (Nat.ble l.length l.length&&Nat.ble (l.length*8) roomMax)=true by rw [Bool.and_eq_true,Nat.ble_eq,Nat.ble_eq];unfold roomMax;omega,Q2]
 refine Ok.val (Q0b (fun j (s:Int×List Int)=>∃ k:Nat,k+j=l.length∧s.1=(k:Int)∧s.2=l.take k++List.replicate (l.length - k) (0:Int)) ?_ _ l.length _ (by rw [Q5];omega) ⟨0,by omega,rfl,by simp⟩)
 rintro j ⟨n,r⟩ ag ⟨k,hk,h1,h2⟩ hag
 simp only at h1 h2
 subst h1
 have hrl:r.length=l.length:=by rw [h2];simp;omega
 simp only [l47_0,l47_0_b]
 rcases Nat.lt_or_ge k l.length with hlt | hge
 ·have hx:=List.getElem?_eq_getElem hlt
  rw [ltl hx,Q2,nn,Q2,Q3,hx,Q6,Q2,Qt (by omega),Q2,List.getElem?_eq_getElem (by omega),Q6,wr1 (by omega)]
  exact hag (j - 1) _ (by omega) ⟨k+1,by omega,rfl,by rw [h2];exact Q4h hx⟩
 ·have:k=l.length:=by omega
  subst this
  rw [ltn,Q4]
  unfold j47_0
  exact Ok.some (by rw [h2];simp)
def szQ (n:Int) (k:Nat) (r:Int):Prop:=r < 0∨(0≤r∧r≤n∧(k:Int)≤n)
theorem Qfo {d:Nat} {l:List Cl8} {n:Int} (h0:0≤n) (h1:n≤1048576) (hl:l.length≤9223372036854775807):Ok (g37 (d+1) l n) fun r=>szQ n l.length r:=by
 rw [e37,wr (by omega) (by omega)]
 by_cases h:n - ((l.length:Nat):Int) < 0
 ·rw [decide_eq_true h,Q2];exact Ok.some (Or.inl (by omega))
 ·rw [decide_eq_false h,Q4];exact Ok.some (Or.inr ⟨by omega,by omega,by omega⟩)
theorem Qd8 {d:Nat} {l:List Fl5} {n:Int} (h0:0≤n) (h1:n≤1048576) (hl:l.length≤9223372036854775807):Ok (g39 (d+1) l n) fun r=>szQ n l.length r:=by
 rw [e39,wr (by omega) (by omega)]
 by_cases h:n - ((l.length:Nat):Int) < 0
 ·rw [decide_eq_true h,Q2];exact Ok.some (Or.inl (by omega))
 ·rw [decide_eq_false h,Q4];exact Ok.some (Or.inr ⟨by omega,by omega,by omega⟩)
theorem Q29 {d:Nat} {l:List Int} {n:Int} (h0:0≤n) (h1:n≤1048576) (hl:l.length≤9223372036854775807):Ok (g38 (d+1) l n) fun r=>szQ n l.length r:=by
 rw [e38,wr (by omega) (by omega)]
 by_cases h:n - ((l.length:Nat):Int) < 0
 ·rw [decide_eq_true h,Q2];exact Ok.some (Or.inl (by omega))
 ·rw [decide_eq_false h,Q4];exact Ok.some (Or.inr ⟨by omega,by omega,by omega⟩)
theorem Qfp {d:Nat} {l:List Cl8} (hl:l.length≤2000000):g59 (d+2) l l=some true:=by
 rw [e59,bne_self_eq_false,Q4]
 refine (Q7 (fun (t:Bool) (i:Int)=>(t,i)) l (fun x i t k=>k t) (j59_0 (d+1)) ?_ ?_ (by rw [Q5];omega) false).trans ?_
 ·intro ag t i x hx;have hi:=(List.getElem?_eq_some_iff.1 hx).1;simp only [l59_0,l59_0_b,ltl hx,nn,Q3,hx,Q6,Q2]
  rw [e89]
  simp only [bne_self_eq_false,Q4,Bool.not_true,Q6]
  rw [wr1 (by omega)]
 ·intro ag t;simp only [l59_0,l59_0_b,ltn,Q4]
 ·rw [Qz (f:=fun _ _ t=>t)];rfl
theorem Qd9 {d:Nat} {l:List Fl5} (hl:l.length≤2000000):g61 (d+2) l l=some true:=by
 rw [e61,bne_self_eq_false,Q4]
 refine (Q7 (fun (t:Bool) (i:Int)=>(t,i)) l (fun x i t k=>k t) (j61_0 (d+1)) ?_ ?_ (by rw [Q5];omega) false).trans ?_
 ·intro ag t i x hx;have hi:=(List.getElem?_eq_some_iff.1 hx).1;simp only [l61_0,l61_0_b,ltl hx,nn,Q3,hx,Q6,Q2]
  rw [e90]
  simp only [bne_self_eq_false,Q4,Bool.not_true,Q6]
  rw [wr1 (by omega)]
 ·intro ag t;simp only [l61_0,l61_0_b,ltn,Q4]
 ·rw [Qz (f:=fun _ _ t=>t)];rfl
theorem Q2a {d:Nat} {l:List Int} (hl:l.length≤2000000):g60 (d+1) l l=some true:=by
 rw [e60,bne_self_eq_false,Q4]
 refine (Q7 (fun (t:Bool) (i:Int)=>(t,i)) l (fun x i t k=>k t) (j60_0 d) ?_ ?_ (by rw [Q5];omega) false).trans ?_
 ·intro ag t i x hx;have hi:=(List.getElem?_eq_some_iff.1 hx).1;simp only [l60_0,l60_0_b,ltl hx,nn,Q3,hx,Q6,Q2]
  simp only [bne_self_eq_false,Q4]
  rw [wr1 (by omega)]
 ·intro ag t;simp only [l60_0,l60_0_b,ltn,Q4]
 ·rw [Qz (f:=fun _ _ t=>t)];rfl
def ldL (x:Ld):Prop:=x.1.size≤1048576∧x.2.1.length≤1048576∧x.2.2.1.length≤1048576∧x.2.2.2.1.length≤1048576∧x.2.2.2.2.1.length≤1048576∧x.2.2.2.2.2.1.length≤1048576∧x.2.2.2.2.2.2.1.length≤1048576∧x.2.2.2.2.2.2.2.1.length≤1048576
theorem Qfq {d:Nat} {x:Ld} (h:ldL x):g29 (d+3) x x=some true:=by
 obtain ⟨z1,z2,z3,z4,z5,z6,z7,z8⟩:=h
 rw [e29,beq_self_eq_true,Bool.not_true,Q4,Qfp (by omega),Q6,Bool.not_true,Q4,Q2a (by omega),Q6,Bool.not_true,Q4,Q2a (by omega),Q6,Bool.not_true,Q4,Q2a (by omega),Q6,Bool.not_true,Q4,Q2a (by omega),Q6,Bool.not_true,Q4,Qd9 (by omega),Q6,Bool.not_true,Q4,Q2a (by omega),Q6,Bool.not_true,Q4,bne_self_eq_false,Q4]
theorem Qfr {d:Nat} {x:Ld} (h:ldL x):g19 (d+3) x=some x:=by
 obtain ⟨z1,z2,z3,z4,z5,z6,z7,z8⟩:=h
 rw [e19,Qfn z2,Q6,Q28 z3,Q6,Q28 z4,Q6,Q28 z5,Q6,Q28 z6,Q6,Qd7 z7,Q6,Q28 z8,Q6]
def ldW (x:Ld):Prop:=x.1.size≤9223372036854775807∧x.2.1.length≤9223372036854775807∧x.2.2.1.length≤9223372036854775807∧x.2.2.2.1.length≤9223372036854775807∧x.2.2.2.2.1.length≤9223372036854775807∧x.2.2.2.2.2.1.length≤9223372036854775807∧x.2.2.2.2.2.2.1.length≤9223372036854775807∧x.2.2.2.2.2.2.2.1.length≤9223372036854775807
theorem Qfs {d:Nat} {x:Ld} {n:Int} (h0:0≤n) (h1:n≤1048576) (h:ldW x):Ok (g15 (d+2) x n) fun r=>r < 0∨(0≤r∧r≤n∧ldL x):=by
 obtain ⟨z1,z2,z3,z4,z5,z6,z7,z8⟩:=h
 have no:Ok (some (-1:Int)) fun r=>r < 0∨(0≤r∧r≤n∧ldL x):=Ok.some (Or.inl (by omega))
 rw [e15,wr (by omega) (by omega)]
 refine Ok.oif (fun _=>no) (fun hs=>?_)
 simp only [decide_eq_false_iff_not] at hs
 refine Ok.bind (Qfo (by omega) (by omega) z2) fun r3 g3=>?_
 refine Ok.oif (fun _=>no) (fun hs3=>?_)
 simp only [decide_eq_false_iff_not] at hs3
 have g3:=g3.resolve_left hs3
 refine Ok.bind (Q29 (by omega) (by omega) z3) fun r4 g4=>?_
 refine Ok.oif (fun _=>no) (fun hs4=>?_)
 simp only [decide_eq_false_iff_not] at hs4
 have g4:=g4.resolve_left hs4
 refine Ok.bind (Q29 (by omega) (by omega) z4) fun r5 g5=>?_
 refine Ok.oif (fun _=>no) (fun hs5=>?_)
 simp only [decide_eq_false_iff_not] at hs5
 have g5:=g5.resolve_left hs5
 refine Ok.bind (Q29 (by omega) (by omega) z5) fun r6 g6=>?_
 refine Ok.oif (fun _=>no) (fun hs6=>?_)
 simp only [decide_eq_false_iff_not] at hs6
 have g6:=g6.resolve_left hs6
 refine Ok.bind (Q29 (by omega) (by omega) z6) fun r7 g7=>?_
 refine Ok.oif (fun _=>no) (fun hs7=>?_)
 simp only [decide_eq_false_iff_not] at hs7
 have g7:=g7.resolve_left hs7
 refine Ok.bind (Qd8 (by omega) (by omega) z7) fun r8 g8=>?_
 refine Ok.oif (fun _=>no) (fun hs8=>?_)
 simp only [decide_eq_false_iff_not] at hs8
 have g8:=g8.resolve_left hs8
 refine Ok.bind (Q29 (by omega) (by omega) z8) fun r9 g9=>?_
 refine Ok.oif (fun _=>no) (fun hs9=>?_)
 simp only [decide_eq_false_iff_not] at hs9
 have g9:=g9.resolve_left hs9
 exact Ok.some (Or.inr ⟨by omega,by omega,by omega,by omega,by omega,by omega,by omega,by omega,by omega,by omega⟩)
theorem ldL.sz {x:Ld} (h:ldL x):ldSz x:=by
 obtain ⟨z1,z2,z3,z4,z5,z6,z7,z8⟩:=h
 exact ⟨by omega,by omega,by omega,by omega,by omega,by omega,by omega,by omega⟩
def mIs:Nat→Nat→List Int
 | _,0=>[]
 | k,n+1=>(k:Int)::mIs (k+1) n
def mkT (k:Nat) (t:Tk):Tk:=(mIs k t.1.length,mIs (k+t.1.length) t.2.length)
theorem Qft {d:Nat} {t:Tk} (h1:t.1.length≤2000000) (h2:t.2.length≤2000000):g30 (d+2) t t=some true:=by
 rw [e30,Q2a h1,Q6,Bool.not_true,Q4,Q2a h2,Q6,Bool.not_true,Q4]
theorem Qfu {d:Nat} {t:Tk} (h1:t.1.length≤1048576) (h2:t.2.length≤1048576):g20 (d+2) t=some t:=by
 rw [e20,Q28 h1,Q6,Q28 h2,Q6]
theorem Qfv {d:Nat} {t:Tk} {n:Int} (h0:0≤n) (h1:n≤1048576) (z1:t.1.length≤9223372036854775807) (z2:t.2.length≤9223372036854775807):Ok (g16 (d+2) t n) fun r=>r < 0∨(0≤r∧r≤n∧t.1.length≤1048576∧t.2.length≤1048576):=by
 have no:Ok (some (-1:Int)) fun r=>r < 0∨(0≤r∧r≤n∧t.1.length≤1048576∧t.2.length≤1048576):=Ok.some (Or.inl (by omega))
 rw [e16]
 refine Ok.bind (Q29 (by omega) (by omega) z1) fun r3 g3=>?_
 refine Ok.oif (fun _=>no) (fun hs3=>?_)
 simp only [decide_eq_false_iff_not] at hs3
 have g3:=g3.resolve_left hs3
 refine Ok.bind (Q29 (by omega) (by omega) z2) fun r4 g4=>?_
 refine Ok.oif (fun _=>no) (fun hs4=>?_)
 simp only [decide_eq_false_iff_not] at hs4
 have g4:=g4.resolve_left hs4
 exact Ok.some (Or.inr ⟨by omega,by omega,by omega,by omega⟩)
theorem Qq {l:List Int} {i:Nat} {z:Int} (h:i < l.length):l[i]? = some (l.getD i z):=by
 rw [List.getD_eq_getElem?_getD,List.getElem?_eq_getElem h];rfl
def tkO (t:Tk) (c:Cl8) (i:Nat):Bool:=decide (0≤t.1.getD i 0∧t.1.getD i 0≤c.2.2.2.2.1)&&decide (0≤t.2.getD i 0∧t.2.getD i 0≤c.2.2.2.2.2.1)
def tkB (x:Ld) (t:Tk):Bool:=decide (t.1.length=x.2.1.length∧t.2.length=x.2.1.length)&&allI (tkO t) x.2.1 0
theorem Qmc {x:Ld} {t:Tk} (h:tkB x t=true):t.1.length=x.2.1.length∧t.2.length=x.2.1.length:=by
 unfold tkB at h
 simp only [Bool.and_eq_true,decide_eq_true_eq] at h
 exact h.1
theorem Q9m {d:Nat} {x:Ld} {t:Tk} (hl:x.2.1.length≤1000):g23 (d+1) x t=some (tkB x t):=by
 rw [e23]
 unfold j23_2 tkB
 by_cases h1:t.1.length=x.2.1.length
 case neg=>rw [show ((((t.1.length:Nat):Int)) != ((x.2.1.length:Nat):Int))=true by simp;omega,Q2,Q2,decide_eq_false (fun h=>h1 h.1)];rfl
 by_cases h2:t.2.length=x.2.1.length
 case neg=>rw [show ((((t.1.length:Nat):Int)) != ((x.2.1.length:Nat):Int))=false by simp;omega,Q4,show ((((t.2.length:Nat):Int)) != ((x.2.1.length:Nat):Int))=true by simp;omega,Q2,decide_eq_false (fun h=>h2 h.2)];rfl
 rw [show ((((t.1.length:Nat):Int)) != ((x.2.1.length:Nat):Int))=false by simp;omega,Q4,show ((((t.2.length:Nat):Int)) != ((x.2.1.length:Nat):Int))=false by simp;omega,Q4,decide_eq_true ⟨h1,h2⟩,Bool.true_and]
 refine (Q7 (fun (t:Bool) (i:Int)=>(t,i)) x.2.1 (fun c i b k=>oif (tkO t c i) (k b) (some false)) (fun _=>some true) ?_ ?_ (by rw [Q5];omega) false).trans ?_
 ·intro ag b i c hx
  have hi:=(List.getElem?_eq_some_iff.1 hx).1
  simp only [l23_0,l23_0_b,ltl hx,nn,Q3,hx,Q6,Q2]
  rw [Qq (l:=t.1) (z:=0) (by omega),Qq (l:=t.2) (z:=0) (by omega)]
  simp only [Q6]
  unfold j23_1
  by_cases a1:t.1.getD i 0 < 0
  ·rw [decide_eq_true a1,Q2,Q2,show tkO t c i=false by unfold tkO;rw [decide_eq_false (by omega),Bool.false_and],Q4]
  by_cases a2:t.1.getD i 0 > c.2.2.2.2.1
  ·rw [decide_eq_false a1,Q4,decide_eq_true a2,Q2,Q2,show tkO t c i=false by unfold tkO;rw [decide_eq_false (by omega),Bool.false_and],Q4]
  by_cases a3:t.2.getD i 0 < 0
  ·rw [decide_eq_false a1,Q4,decide_eq_false a2,Q4,decide_eq_true a3,Q2,Q2,show tkO t c i=false by unfold tkO;rw [Bool.and_comm,decide_eq_false (by omega),Bool.false_and],Q4]
  by_cases a4:t.2.getD i 0 > c.2.2.2.2.2.1
  ·rw [decide_eq_false a1,Q4,decide_eq_false a2,Q4,decide_eq_false a3,Q4,decide_eq_true a4,Q2,show tkO t c i=false by unfold tkO;rw [Bool.and_comm,decide_eq_false (by omega),Bool.false_and],Q4]
  ·rw [decide_eq_false a1,Q4,decide_eq_false a2,Q4,decide_eq_false a3,Q4,decide_eq_false a4,Q4,show tkO t c i=true by unfold tkO;rw [decide_eq_true (by omega),decide_eq_true (by omega)];rfl,Q2,wr1 (by omega)]
 ·intro ag t;simp only [l23_0,l23_0_b,ltn,Q4];rfl
 ·rw [Qo];cases allI (tkO t) x.2.1 0<;>rfl
theorem Qfw {d:Nat} {x:Ld} {t:Tk} (hl:x.2.1.length≤1000):g72 (d+2) x t=some (tkB x t):=by
 rw [e72]
 unfold j72_1 tkB
 by_cases h1:t.1.length=x.2.1.length
 case neg=>rw [show ((((t.1.length:Nat):Int)) != ((x.2.1.length:Nat):Int))=true by simp;omega,Q2,Q2,decide_eq_false (fun h=>h1 h.1)];rfl
 by_cases h2:t.2.length=x.2.1.length
 case neg=>rw [show ((((t.1.length:Nat):Int)) != ((x.2.1.length:Nat):Int))=false by simp;omega,Q4,show ((((t.2.length:Nat):Int)) != ((x.2.1.length:Nat):Int))=true by simp;omega,Q2,decide_eq_false (fun h=>h2 h.2)];rfl
 rw [show ((((t.1.length:Nat):Int)) != ((x.2.1.length:Nat):Int))=false by simp;omega,Q4,show ((((t.2.length:Nat):Int)) != ((x.2.1.length:Nat):Int))=false by simp;omega,Q4,decide_eq_true ⟨h1,h2⟩,Bool.true_and]
 refine (Q7 (fun (t:Bool) (i:Int)=>(t,i)) x.2.1 (fun c i b k=>oif (tkO t c i) (k b) (some false)) (fun _=>some true) ?_ ?_ (by rw [Q5];omega) false).trans ?_
 ·intro ag b i c hx
  have hi:=(List.getElem?_eq_some_iff.1 hx).1
  simp only [l72_0,l72_0_b,ltl hx,nn,Q3,hx,Q6,Q2]
  rw [Qq (l:=t.1) (z:=0) (by omega),Qq (l:=t.2) (z:=0) (by omega),Q6,Q6,Q2o,Q6,Q2o,Q6,wr1 (by omega)]
  unfold tkO
  cases decide (0≤t.1.getD i 0∧t.1.getD i 0≤c.2.2.2.2.1) with
  | false=>rfl
  | true=>cases decide (0≤t.2.getD i 0∧t.2.getD i 0≤c.2.2.2.2.2.1)<;>rfl
 ·intro ag t;simp only [l72_0,l72_0_b,ltn,Q4];rfl
 ·rw [Qo];cases allI (tkO t) x.2.1 0<;>rfl
theorem Qlj {x:Ld} (h:lgB x=true):x.2.1.length≤24:=by
 unfold lgB at h
 simp only [Bool.and_eq_true,decide_eq_true_eq] at h
 exact h.1.1
theorem Qju {d:Nat} {x:Ld} {t:Tk} (h:ldSz x):g41 (d+12) x t=some (lgB x&&tkB x t):=by
 rw [e41,Qjt h,Q6]
 cases hg:lgB x with
 | false=>rfl
 | true =>
  have:=Qlj hg
  rw [Q2,show d+11=d+9+2 by omega,Qfw (by omega),Q6,Bool.true_and]
def lvV (F:List Int):List Int:=selI (fun f _=>decide (f < 0)) (fun _ k=>((k:Nat):Int)) F 0
theorem Q3x {F:List Int}:(lvV F).length≤F.length:=Qab _ _
theorem Q5e {d:Nat} {x:Ld} (hl:x.2.1.length≤1000) (hE:x.2.2.2.1.length=x.2.1.length):g24 (d+1) x=some (lvV x.2.2.2.1):=by
 rw [e24]
 refine (Q7 (fun (t:List Int) (i:Int)=>(t,i)) x.2.2.2.1 (fun f i t k=>oif (decide (f < 0)) (oif (Nat.ble ((t.length+[((i:Nat):Int)].length)*8) roomMax) (k (t++[((i:Nat):Int)])) none) (k t)) (fun t=>some t) ?_ ?_ (by rw [Q5];omega) []).trans ?_
 ·intro ag t i f hx
  have hi:=(List.getElem?_eq_some_iff.1 hx).1
  simp only [l24_0,l24_0_b,← hE,ltl hx,nn,Q3,hx,Q6,Q2]
  rw [wr1 (by omega)]
 ·intro ag t;simp only [l24_0,l24_0_b,← hE,ltn,Q4];rfl
 ·rw [Q0p (c:=fun f _=>decide (f < 0)) (e:=fun (_:Int) (k:Nat)=>((k:Nat):Int)) (w:=8) x.2.2.2.1 0 [] (by simp;omega)]
  rfl
theorem Qjv {d k:Nat} {x:Ld} {f:Int} (h:x.2.2.2.1[k]? = some f):g69 (d+1) x ((k:Nat):Int)=some (decide (f < 0)):=by
 rw [e69,nn,Q2,Q3,h,Q6]
theorem Q5f {d:Nat} {x:Ld} (hl:x.2.1.length≤1000) (hE:x.2.2.2.1.length=x.2.1.length):g35 (d+2) x=some (lvV x.2.2.2.1):=by
 rw [e35]
 refine (Q7 (fun (t:List Int) (i:Int)=>(t,i)) x.2.2.2.1 (fun f i t k=>oif (decide (f < 0)) (oif (Nat.ble ((t.length+[((i:Nat):Int)].length)*8) roomMax) (k (t++[((i:Nat):Int)])) none) (k t)) (fun t=>some t) ?_ ?_ (by rw [Q5];omega) []).trans ?_
 ·intro ag t i f hx
  have hi:=(List.getElem?_eq_some_iff.1 hx).1
  simp only [l35_0,l35_0_b,← hE,ltl hx,Q2]
  rw [Qjv hx,Q6,wr1 (by omega)]
 ·intro ag t;simp only [l35_0,l35_0_b,← hE,ltn,Q4];rfl
 ·rw [Q0p (c:=fun f _=>decide (f < 0)) (e:=fun (_:Int) (k:Nat)=>((k:Nat):Int)) (w:=8) x.2.2.2.1 0 [] (by simp;omega)]
  rfl
theorem Qfx {l:List Cl8} (T:Tr l) {i:Int} (hi:vI l i) (hp:0≤parI l i):pW l (parI l i) < pW l i:=by
 have hv:=Qdk (l:=l) (i:=i) hp
 obtain ⟨A,B,e⟩:=Q9u T _ (parI l i) (Nat.le_refl _) hv
 rw [Q8e T hv] at e
 have hm:i∈(kdI l (parI l i)).flatMap (subI l):=List.mem_flatMap.2 ⟨i,(Q3r T hv).2 ⟨hi,rfl⟩,by rw [Q8e T hi];simp⟩
 obtain ⟨m,hm⟩:=List.getElem?_of_mem hm
 have hlt:=(List.getElem?_eq_some_iff.1 hm).1
 have h1:(wlk l)[A.length]? = some (parI l i):=by rw [e];simp
 have h2:(wlk l)[A.length+1+m]? = some i:=by
  rw [e,List.append_assoc,List.getElem?_append_right (by omega),show A.length+1+m - A.length=m+1 by omega,List.cons_append,List.getElem?_cons_succ,List.getElem?_append_left hlt,hm]
 unfold pW
 rw [Q23 (Q01 T) h1,Q23 (Q01 T) h2]
 omega
structure Lk (x:Ld):Prop where
 n24:x.2.1.length≤24
 pl:x.2.2.1.length=x.2.1.length
 fl:x.2.2.2.1.length=x.2.1.length
 pd:∀ (k:Nat) (p:Int),x.2.2.1[k]? = some p→p < (k:Int)
 bur:∀ c∈x.2.1,c.2.2.2.2.1≤1000000∧c.2.2.2.2.2.1≤1000000
theorem Qmd {x:Ld} (h:lgB x=true):Lk x:=by
 have h24:=Qlj h
 unfold lgB smB at h
 simp only [Bool.and_eq_true,decide_eq_true_eq] at h
 obtain ⟨_,hg,s1,s2,s3,_⟩:=h
 have G:=Qhq hg
 have T:=G.tr
 have e1:x.2.1.length=(wlk (unV x).2.1).length:=by rw [s1];show ((wlk (unV x).2.1).map _).length=_;rw [List.length_map]
 refine ⟨h24,?_,?_,?_,?_⟩
 ·rw [e1,s2];show ((wlk (unV x).2.1).map _).length=_;rw [List.length_map]
 ·rw [e1,s3];show ((wlk (unV x).2.1).map _).length=_;rw [List.length_map]
 ·intro k p hp
  rw [s2] at hp
  have hp':((wlk (unV x).2.1).map fun i=>pW (unV x).2.1 (parI (unV x).2.1 i))[k]? = some p:=hp
  rw [List.getElem?_map] at hp'
  obtain ⟨i,hi,rfl⟩:=Option.map_eq_some_iff.1 hp'
  have hv:=(Q0d T).1 (List.mem_of_getElem? hi)
  have hk:pW (unV x).2.1 i=(k:Int):=Q23 (Q01 T) hi
  rcases Int.lt_or_le (parI (unV x).2.1 i) 0 with h0 | h0
  ·rw [Q6b T h0];omega
  ·have:=Qfx T hv h0;omega
 ·intro c hc
  have hm:c∈(unV x).2.1:=Q2s.mem_iff.2 hc
  have:=G.cl
  unfold clsB at this
  simp only [Bool.and_eq_true] at this
  have:=List.all_eq_true.1 this.2.2.2.2.2.2.2.1 c hm
  unfold burB at this
  simp only [decide_eq_true_eq] at this
  omega
def wyV (P:List Int):Nat→Int→List Int
 | 0,_=>[]
 | f+1,n=>if n < 0 then [] else n::wyV P f (P.getD n.toNat (-1))
theorem Qef {x:Ld} (L:Lk x):∀ (f:Nat) (n:Int),n < ((x.2.1.length:Nat):Int)→∀ w∈wyV x.2.2.1 f n,0≤w∧w < ((x.2.1.length:Nat):Int)
 | 0,n,_,w,h=>by simp [wyV] at h
 | f+1,n,hn,w,h=>by
  simp only [wyV] at h
  split at h
  ·simp at h
  ·rename_i h0
   rcases List.mem_cons.1 h with rfl | h
   ·omega
   ·have hg:=Qq (l:=x.2.2.1) (i:=n.toNat) (z:=-1) (by have:=L.pl;omega)
    have:=L.pd _ _ hg
    exact Qef L f _ (by omega) w h
theorem Qeg {P:List Int}:∀ (f:Nat) (n:Int),(wyV P f n).length≤f
 | 0,n=>by simp [wyV]
 | f+1,n=>by
  simp only [wyV]
  split
  ·simp
  ·have:=Qeg (P:=P) f (P.getD n.toNat (-1));rw [List.length_cons];omega
def wyL (x:Ld) (n:Int):List Int:=wyV x.2.2.1 24 n
theorem Qme {d:Nat} {x:Ld} (L:Lk x) {n:Int} (hn:n < ((x.2.1.length:Nat):Int)):g64 (d+1) x n=some (wyL x n):=by
 rw [e64]
 have key:∀ (f:Nat) (n:Int) (A:List Int) (fuel:Nat),n < ((x.2.1.length:Nat):Int)→n < (f:Int)→f < fuel→A.length+f≤1000→iterP (l64_0 d x (j64_0 d)) fuel (n,A)=some (A++wyV x.2.2.1 f n):=by
  intro f
  induction f with
  | zero =>
   intro n A fuel h1 h2 h3 h4
   obtain ⟨g,rfl⟩:∃ g,fuel=g+1:=⟨fuel - 1,by omega⟩
   simp only [iterP,l64_0,l64_0_b]
   rw [decide_eq_false (by omega),Q4]
   simp only [wyV,List.append_nil]
   rfl
  | succ f ih =>
   intro n A fuel h1 h2 h3 h4
   obtain ⟨g,rfl⟩:∃ g,fuel=g+1:=⟨fuel - 1,by omega⟩
   simp only [iterP,l64_0,l64_0_b,wyV]
   by_cases h0:n < 0
   ·rw [decide_eq_false (by omega),Q4,if_pos h0,List.append_nil];rfl
   ·have hg:=Qq (l:=x.2.2.1) (i:=n.toNat) (z:=-1) (by have:=L.pl;omega)
    have:=L.pd _ _ hg
    rw [decide_eq_true (show n≥0 by omega),Q2,room (by simp;omega),Q2,Q2,hg,Q6,if_neg h0]
    rw [ih _ _ g (by omega) (by omega) (by omega) (by simp;omega),List.append_assoc]
    rfl
 have:=L.n24
 exact (key 24 n [] fuelN hn (by omega) (by rw [Q5];omega) (by simp)).trans (by rw [List.nil_append];rfl)
theorem Qh0 {d:Nat} {x:Ld} (L:Lk x) {n:Int} (hn:n < ((x.2.1.length:Nat):Int)):g92 (d+1) x n=some (wyL x n):=by
 rw [e92]
 have key:∀ (f:Nat) (n:Int) (A:List Int) (fuel:Nat),n < ((x.2.1.length:Nat):Int)→n < (f:Int)→f < fuel→A.length+f≤1000→iterP (l92_0 d x (j92_0 d)) fuel (n,A)=some (A++wyV x.2.2.1 f n):=by
  intro f
  induction f with
  | zero =>
   intro n A fuel h1 h2 h3 h4
   obtain ⟨g,rfl⟩:∃ g,fuel=g+1:=⟨fuel - 1,by omega⟩
   simp only [iterP,l92_0,l92_0_b]
   rw [decide_eq_false (by omega),Q4]
   simp only [wyV,List.append_nil]
   rfl
  | succ f ih =>
   intro n A fuel h1 h2 h3 h4
   obtain ⟨g,rfl⟩:∃ g,fuel=g+1:=⟨fuel - 1,by omega⟩
   simp only [iterP,l92_0,l92_0_b,wyV]
   by_cases h0:n < 0
   ·rw [decide_eq_false (by omega),Q4,if_pos h0,List.append_nil];rfl
   ·have hg:=Qq (l:=x.2.2.1) (i:=n.toNat) (z:=-1) (by have:=L.pl;omega)
    have:=L.pd _ _ hg
    rw [decide_eq_true (show n≥0 by omega),Q2,room (by simp;omega),Q2,Q2,hg,Q6,if_neg h0]
    rw [ih _ _ g (by omega) (by omega) (by omega) (by simp;omega),List.append_assoc]
    rfl
 have:=L.n24
 exact (key 24 n [] fuelN hn (by omega) (by rw [Q5];omega) (by simp)).trans (by rw [List.nil_append];rfl)
def fdV (A:List Int) (s:Int):List Int→Int
 | []=>-1
 | w::r=>if A.getD w.toNat 0≥s then w else fdV A s r
def lenV (x:Ld) (t:Tk) (n s:Int):Int:=fdV t.1 s (wyL x n)
theorem Qfy {d:Nat} {x:Ld} {t:Tk} (L:Lk x) (ht:t.1.length=x.2.1.length) {n s:Int} (hn:n < ((x.2.1.length:Nat):Int)):g95 (d+1) x t n s=some (lenV x t n s):=by
 rw [e95]
 have key:∀ (f:Nat) (n z:Int) (fuel:Nat),n < ((x.2.1.length:Nat):Int)→n < (f:Int)→f < fuel→iterP (l95_0 d x t s (j95_0 d)) fuel (z,n)=some (fdV t.1 s (wyV x.2.2.1 f n)):=by
  intro f
  induction f with
  | zero =>
   intro n z fuel h1 h2 h3
   obtain ⟨g,rfl⟩:∃ g,fuel=g+1:=⟨fuel - 1,by omega⟩
   simp only [iterP,l95_0,l95_0_b]
   rw [decide_eq_false (by omega),Q4]
   rfl
  | succ f ih =>
   intro n z fuel h1 h2 h3
   obtain ⟨g,rfl⟩:∃ g,fuel=g+1:=⟨fuel - 1,by omega⟩
   simp only [iterP,l95_0,l95_0_b,wyV]
   by_cases h0:n < 0
   ·rw [decide_eq_false (by omega),Q4,if_pos h0];rfl
   ·have hg:=Qq (l:=x.2.2.1) (i:=n.toNat) (z:=-1) (by have:=L.pl;omega)
    have:=L.pd _ _ hg
    rw [decide_eq_true (show n≥0 by omega),Q2,Q2,Qq (l:=t.1) (z:=0) (by omega),Q6,if_neg h0]
    simp only [fdV]
    by_cases h5:t.1.getD n.toNat 0≥s
    ·rw [decide_eq_true h5,Q2,if_pos h5]
    ·rw [decide_eq_false h5,Q4,Q2,hg,Q6,if_neg h5]
     exact ih _ _ g (by omega) (by omega) (by omega)
 have:=L.n24
 exact key 24 n 0 fuelN hn (by omega) (by rw [Q5];omega)
theorem Q89 {d:Nat} {x:Ld} {t:Tk} (L:Lk x) (ht:t.1.length=x.2.1.length) {n s:Int} (hn:n < ((x.2.1.length:Nat):Int)):g67 (d+2) x t n s=some (lenV x t n s):=by
 have hW:=Qeg (P:=x.2.2.1) 24 n
 rw [e67,Qh0 L hn,Q6]
 refine (Q7 (fun (z:Int) (i:Int)=>(z,i)) (wyL x n) (fun w _ z k=>oif (decide (t.1.getD w.toNat 0≥s)) (some w) (k z)) (fun _=>some (-1)) ?_ ?_ (by rw [Q5];unfold wyL;omega) 0).trans ?_
 ·intro ag z i w hx
  have hi:=(List.getElem?_eq_some_iff.1 hx).1
  obtain ⟨w0,w1⟩:=Qef L 24 n hn w (List.mem_of_getElem? hx)
  unfold wyL at hi
  simp only [l67_0,l67_0_b,ltl hx,nn,Q3,hx,Q6,Q2,Qc7 hx]
  rw [decide_eq_true w0,Q2,Qq (l:=t.1) (z:=0) (by omega),Q6,wr1 (by omega)]
 ·intro ag t;simp only [l67_0,l67_0_b,ltn,Q4];rfl
 ·have:∀ (W:List Int) (i:Nat) (z:Int),rangeR (fun w _ z k=>oif (decide (t.1.getD w.toNat 0≥s)) (some w) (k z)) (fun _=>some (-1)) W i z=some (fdV t.1 s W):=by
   intro W
   induction W with
   | nil=>intro i z;rfl
   | cons w r ih =>
    intro i z
    simp only [rangeR,fdV]
    by_cases h5:t.1.getD w.toNat 0≥s
    ·rw [decide_eq_true h5,Q2,if_pos h5]
    ·rw [decide_eq_false h5,Q4,if_neg h5];exact ih _ _
  exact this _ _ _
def mayV (x:Ld) (t:Tk) (n s:Int):Bool:=(wyL x n).all (fun w => !decide (t.2.getD w.toNat 0 < s))&&decide (lenV x t n s≥0)
theorem Q6v {τ β:Type} {p:Int→Bool} {no:Option β} {fin:τ→Option β}:∀ (W:List Int) (i:Nat) (z:τ),rangeR (fun w _ z k=>oif (p w) no (k z)) fin W i z=oif (W.all fun w => !p w) (fin z) no
 | [],i,z=>rfl
 | w::r,i,z=>by
  simp only [rangeR,List.all_cons]
  cases p w with
  | true=>rfl
  | false=>rw [Q4,Q6v r];rfl
theorem Qh1 {d:Nat} {x:Ld} {t:Tk} (L:Lk x) (ht:t.1.length=x.2.1.length) (ht2:t.2.length=x.2.1.length) {n s:Int} (hn:n < ((x.2.1.length:Nat):Int)):g70 (d+2) x t n s=some (mayV x t n s):=by
 have hW:=Qeg (P:=x.2.2.1) 24 n
 rw [e70,Qme L hn,Q6]
 refine (Q7 (fun (z:Bool) (i:Int)=>(z,i)) (wyL x n) (fun w _ z k=>oif (decide (t.2.getD w.toNat 0 < s)) (some false) (k z)) (fun _=>some (decide (lenV x t n s≥0))) ?_ ?_ (by rw [Q5];unfold wyL;omega) false).trans ?_
 ·intro ag z i w hx
  have hi:=(List.getElem?_eq_some_iff.1 hx).1
  obtain ⟨w0,w1⟩:=Qef L 24 n hn w (List.mem_of_getElem? hx)
  unfold wyL at hi
  simp only [l70_0,l70_0_b,ltl hx,nn,Q3,hx,Q6,Q2,Qc7 hx]
  rw [decide_eq_true w0,Q2,Qq (l:=t.2) (z:=0) (by omega),Q6,wr1 (by omega)]
 ·intro ag t;simp only [l70_0,l70_0_b,ltn,Q4]
  unfold j70_0
  rw [Qfy L ht hn,Q6]
 ·rw [Q6v (p:=fun w=>decide (t.2.getD w.toNat 0 < s))]
  unfold mayV
  cases (wyL x n).all (fun w => !decide (t.2.getD w.toNat 0 < s))<;>rfl
theorem Qmf {d:Nat} {x:Ld} {t:Tk} (L:Lk x) (ht:t.1.length=x.2.1.length) (ht2:t.2.length=x.2.1.length) {n s:Int} (hn:n < ((x.2.1.length:Nat):Int)):g66 (d+3) x t n s=some (mayV x t n s):=by
 have hW:=Qeg (P:=x.2.2.1) 24 n
 rw [e66,Qh0 L hn,Q6]
 refine (Q7 (fun (z:Bool) (i:Int)=>(z,i)) (wyL x n) (fun w _ z k=>oif (decide (t.2.getD w.toNat 0 < s)) (some false) (k z)) (fun _=>some (decide (lenV x t n s≥0))) ?_ ?_ (by rw [Q5];unfold wyL;omega) false).trans ?_
 ·intro ag z i w hx
  have hi:=(List.getElem?_eq_some_iff.1 hx).1
  obtain ⟨w0,w1⟩:=Qef L 24 n hn w (List.mem_of_getElem? hx)
  unfold wyL at hi
  simp only [l66_0,l66_0_b,ltl hx,nn,Q3,hx,Q6,Q2,Qc7 hx]
  rw [decide_eq_true w0,Q2,Qq (l:=t.2) (z:=0) (by omega),Q6,wr1 (by omega)]
 ·intro ag t;simp only [l66_0,l66_0_b,ltn,Q4]
  unfold j66_0
  rw [Q89 L ht hn,Q6]
 ·rw [Q6v (p:=fun w=>decide (t.2.getD w.toNat 0 < s))]
  unfold mayV
  cases (wyL x n).all (fun w => !decide (t.2.getD w.toNat 0 < s))<;>rfl
abbrev Pk:=Int×Int×Int×Int×Int×Int
def wordOk (n:Int):Bool:=decide (0≤n∧n≤65535)
def pkOk (p:Pk):Bool:=decide (1≤p.1∧p.1≤100000∧0≤p.2.1∧p.2.1≤65535∧0≤p.2.2.1∧p.2.2.1≤65535∧0≤p.2.2.2.1∧p.2.2.2.1≤65535∧0≤p.2.2.2.2.1∧p.2.2.2.2.1≤65535∧1≤p.2.2.2.2.2∧p.2.2.2.2.2≤1500)
theorem Q8a {d:Nat} {x:Pk}:g25 (d+2) x=some (pkOk x):=by
 rw [e25,e55,Q6]
 refine (Q7 (fun (t:Bool) (i:Int)=>(t,i)) [x.2.1,x.2.2.1,x.2.2.2.1,x.2.2.2.2.1] (fun y _ t k=>oif (wordOk y) (k t) (some false)) (j25_0 (d+1) x) ?_ ?_ (by rw [Q5];simp) false).trans ?_
 ·intro ag t i y hy
  have hi:i < 4:=by have:=(List.getElem?_eq_some_iff.1 hy).1;simpa using this
  have h4:decide ((i:Int) < 4)=true:=by simp;omega
  simp only [l25_0,l25_0_b,h4,nn,Q3,Q2]
  rw [hy,Q6,wr1 (by omega)]
  unfold wordOk
  by_cases h1:y < 0
  ·rw [decide_eq_true h1,Q2,decide_eq_false (by omega),Q4]
  ·rw [decide_eq_false h1,Q4]
   by_cases h2:y > 65535
   ·rw [decide_eq_true h2,Q2,decide_eq_false (by omega),Q4]
   ·rw [decide_eq_false h2,Q4,decide_eq_true (by omega),Q2]
 ·intro ag t;rfl
 ·rw [Q0j (p:=wordOk)]
  unfold j25_0
  simp only [Q2p]
  congr 1
  rw [Bool.eq_iff_iff]
  simp only [List.all_cons,List.all_nil,Bool.and_true,wordOk,pkOk]
  simp
  omega
theorem Qjw {d:Nat} {n:Int}:g73 (d+2) n=some (wordOk n):=by
 rw [e73,Q2o,Q6];rfl
theorem Qjx {d:Nat} {x:Pk}:g43 (d+3) x=some (pkOk x):=by
 rw [e43]
 simp only [Q2o,Qjw,Q6,Q2p]
 congr 1
 rw [Bool.eq_iff_iff]
 simp [wordOk,pkOk]
 omega
theorem Qqu {a b:Nat} (h:a≤b):Nat.ble a b=true:=by rw [Nat.ble_eq];exact h
def allOkP (l:List Pk):Prop:=∀ p∈l,pkOk p=true
def hasV (l:List Pk) (id:Int):Bool:=l.any fun p=>p.1==id
theorem Qb4 {β:Type} {id:Int} {yes:Nat→Option β} {fin:Int→Option β} (hy:∀ i j,yes i=yes j):∀ (l:List Pk) (i:Nat) (t:Int),
  rangeR (fun (x:Pk) i (t:Int) k=>oif (x.1==id) (yes i) (k t)) fin l i t=if hasV l id then yes 0 else fin t
 | [],i,t=>by simp [rangeR,hasV]
 | x::r,i,t=>by
  simp only [rangeR]
  cases h:x.1==id with
  | true=>simp only [Q2,hasV,List.any_cons,h,Bool.true_or,if_true];exact hy i 0
  | false=>simp only [Q4,hasV,List.any_cons,h,Bool.false_or];exact Qb4 hy r (i+1) t
theorem Qmg {d:Nat} {l:List Pk} {id:Int} (hl:l.length < 4194304):g57 (d+4) l id=some (hasV l id):=by
 rw [e57]
 refine (Q7 (fun (t:Int) (i:Int)=>(t,i)) l (fun (x:Pk) i (t:Int) k=>oif (x.1==id) (some true) (k t)) (fun _=>some false) ?_ ?_ (by rw [Q5];exact hl) 0).trans ?_
 ·intro ag t i x hx
  have hi:=(List.getElem?_eq_some_iff.1 hx).1
  simp only [l57i87i122_0,l57i87i122_0_b,ltl hx,nn,Q3,hx,Q6,Q2]
  rw [wr1 (by omega)]
  first | done | rfl | simp
 ·intro ag t;simp only [l57i87i122_0,l57i87i122_0_b,ltn,Q4];rfl
 ·rw [Qb4 (fun _ _=>rfl)];cases hasV l id<;>rfl
def okI (l:List Pk) (x:Pk) (i:Nat):Bool:=pkOk x && !hasV (l.take i) x.1
def apV (l:List Pk):Bool:=allI (okI l) l 0
theorem Qlk (l:List Pk):∀ (r pre:List Pk),l=pre++r→(allI (okI l) r pre.length=true↔(∀ x∈r,pkOk x=true)∧(∀ x∈r,∀ y∈pre,y.1≠x.1)∧(r.map fun p=>p.1).Nodup)
 | [],pre,_=>by simp [allI]
 | x::r,pre,h=>by
  have ih:=Qlk l r (pre++[x]) (by rw [h];simp)
  simp only [List.length_append,List.length_cons,List.length_nil,Nat.zero_add] at ih
  have ht:l.take pre.length=pre:=by rw [h];simp
  simp only [allI,Bool.and_eq_true,ih,okI,ht,Bool.not_eq_true',List.map_cons,List.nodup_cons,List.mem_cons,forall_eq_or_imp,List.mem_append,List.mem_singleton]
  have hh:hasV pre x.1=false↔∀ y∈pre,y.1≠x.1:=by
   unfold hasV;rw [List.any_eq_false];simp
  rw [hh]
  constructor
  ·rintro ⟨⟨a,b⟩,c,e,f⟩
   refine ⟨⟨a,c⟩,⟨b,fun z hz y hy=>e z hz y (.inl hy)⟩,fun hm=>?_,f⟩
   obtain ⟨z,hz,hzx⟩:=List.mem_map.1 hm
   exact e z hz x (.inr (.inl rfl)) hzx.symm
  ·rintro ⟨⟨a,c⟩,⟨b,e⟩,g,f⟩
   refine ⟨⟨a,b⟩,c,fun z hz y hy=>?_,f⟩
   rcases hy with hy | hy | hy
   ·exact e z hz y hy
   ·subst hy;exact fun he=>g (List.mem_map.2 ⟨z,hz,he.symm⟩)
   ·simp at hy
theorem Qoj (l:List Pk):apV l=true↔allOkP l∧(l.map fun p=>p.1).Nodup:=by
 have:=Qlk l l [] rfl
 simp only [List.length_nil,List.not_mem_nil,false_imp_iff,implies_true,true_and] at this
 exact this
theorem Qfz {d:Nat} {l:List Pk} (hl:l.length < 4194304):g27 (d+5) l=some (apV l):=by
 rw [e27]
 refine (Q7 (fun (t:Bool) (i:Int)=>(t,i)) l (fun x i t k=>oif (okI l x i) (k t) (some false)) (fun _=>some true) ?_ ?_ (by rw [Q5];exact hl) false).trans ?_
 ·intro ag t i x hx
  have hi:=(List.getElem?_eq_some_iff.1 hx).1
  simp only [l27_0,l27_0_b,ltl hx,nn,Q3,hx,Q6,Q2,Q8a]
  rw [wr1 (by omega),Qqu (show i≤l.length by omega),Q2,Qmg (by simp;omega),Q6]
  unfold okI
  cases pkOk x<;>cases hasV (l.take i) x.1<;>rfl
 ·intro ag t;simp only [l27_0,l27_0_b,ltn,Q4];rfl
 ·rw [Qo];unfold apV;cases allI (okI l) l 0<;>rfl
abbrev Rg:=Ld×Tk×List (List Pk)×Int×Int
def rwL (l:List (List Pk)):Prop:=l.length≤1048576∧∀ r∈l,r.length≤1048576
theorem Qb5 {d:Nat} {l:List (List Pk)} {n:Int} (h0:0≤n) (h1:n≤1048576) (hl:l.length≤9223372036854775807) (hr:∀ r∈l,r.length≤9223372036854775807):Ok (g17 (d+2) l n) fun r=>r < 0∨(0≤r∧rwL l):=by
 rw [e17,wr (by omega) (by omega)]
 by_cases h:n - ((l.length:Nat):Int) < 0
 ·rw [decide_eq_true h,Q2];exact Ok.some (Or.inl (by omega))
 rw [decide_eq_false h,Q4]
 refine Q4o (fun (t:Int×Int) (i:Int)=>(t.1,t.2,i)) l (fun k t=>(0≤t.1∧t.1≤1048576)∧∀ (j:Nat) r,j < k→l[j]? = some r→r.length≤1048576) ?_ ?_ fuelN 0 (n - ((l.length:Nat):Int),0) (by rw [Q5];omega) (by omega) ⟨⟨by simp only;omega,by simp only;omega⟩,fun j r hj=>absurd hj (by omega)⟩
 ·rintro ag ⟨a,b⟩ k row hx ⟨⟨a0,a1⟩,hp⟩ hag
  simp only at a0 a1
  have hk:=(List.getElem?_eq_some_iff.1 hx).1
  have hrow:=hr row (List.mem_of_getElem? hx)
  simp only [l17_0,l17_0_b,ltl hx,nn,Q3,hx,Q6,Q2]
  rw [e40,wr (by omega) (by omega)]
  by_cases h5:a - ((row.length:Nat):Int) < 0
  ·rw [decide_eq_true h5,Q2,Q6,decide_eq_true (show (-1:Int) < 0 by omega),Q2];exact Ok.some (Or.inl (by omega))
  ·rw [decide_eq_false h5,Q4,Q6,decide_eq_false h5,Q4,wr1 (by omega)]
   refine hag (a - ((row.length:Nat):Int),b) ⟨⟨by simp only;omega,by simp only;omega⟩,fun j r hj hg=>?_⟩
   by_cases e:j=k
   ·subst e;rw [hx] at hg;injection hg with hg;subst hg;omega
   ·exact hp j r (by omega) hg
 ·rintro ag ⟨a,b⟩ ⟨⟨a0,a1⟩,hp⟩
  simp only at a0 a1
  simp only [l17_0,l17_0_b,ltn,Q4]
  refine Ok.some (Or.inr ⟨a0,by omega,fun r hr=>?_⟩)
  obtain ⟨j,hj⟩:=List.getElem?_of_mem hr
  exact hp j r (List.getElem?_eq_some_iff.1 hj).1 hj
def rgL (r:Rg):Prop:=ldL r.1∧r.2.1.1.length≤1048576∧r.2.1.2.length≤1048576∧rwL r.2.2.1
def rgW (r:Rg):Prop:=ldW r.1∧(r.2.1.1.length≤9223372036854775807∧r.2.1.2.length≤9223372036854775807)∧r.2.2.1.length≤9223372036854775807∧∀ q∈r.2.2.1,q.length≤9223372036854775807
theorem Qmh {d:Nat} {r:Rg} (h:rgW r):Ok (g6 (d+3) r 1048576) fun z=>z < 0∨rgL r:=by
 obtain ⟨z1,z2,z3,z4⟩:=h
 have no:Ok (some (-1:Int)) fun z=>z < 0∨rgL r:=Ok.some (Or.inl (by omega))
 rw [e6]
 refine Ok.bind (Qfs (by omega) (by omega) z1) fun r3 g3=>?_
 refine Ok.oif (fun _=>no) (fun hs3=>?_)
 simp only [decide_eq_false_iff_not] at hs3
 have g3:=g3.resolve_left hs3
 refine Ok.bind (Qfv (by omega) (by omega) z2.1 z2.2) fun r4 g4=>?_
 refine Ok.oif (fun _=>no) (fun hs4=>?_)
 simp only [decide_eq_false_iff_not] at hs4
 have g4:=g4.resolve_left hs4
 refine Ok.bind (Qb5 (by omega) (by omega) z3 z4) fun r5 g5=>?_
 refine Ok.oif (fun _=>no) (fun hs5=>?_)
 simp only [decide_eq_false_iff_not] at hs5
 exact Ok.some (Or.inr ⟨g3.2.2,g4.2.2.1,g4.2.2.2,(g5.resolve_left hs5).2⟩)
theorem Qda {d:Nat} {l:List Pk} (hl:l.length≤1048576):g49 (d+2) l=some l:=by
 rw [e49,nn,Q2,Q2,Q3,show (Nat.ble l.length l.length&&Nat.ble (l.length*48) roomMax)=true by rw [Bool.and_eq_true,Nat.ble_eq,Nat.ble_eq];unfold roomMax;omega,Q2]
 refine Ok.val (Q0b (fun j (s:Int×List Pk)=>∃ k:Nat,k+j=l.length∧s.1=(k:Int)∧s.2=l.take k++List.replicate (l.length - k) ((0,0,0,0,0,0):Pk)) ?_ _ l.length _ (by rw [Q5];omega) ⟨0,by omega,rfl,by simp⟩)
 rintro j ⟨n,r⟩ ag ⟨k,hk,h1,h2⟩ hag
 simp only at h1 h2
 subst h1
 have hrl:r.length=l.length:=by rw [h2];simp;omega
 simp only [l49_0,l49_0_b]
 rcases Nat.lt_or_ge k l.length with hlt | hge
 ·have hx:=List.getElem?_eq_getElem hlt
  rw [ltl hx,Q2,nn,Q2,Q3,hx,Q6,e77,Q6,Q2,Qt (by omega),Q2,List.getElem?_eq_getElem (by omega),Q6,wr1 (by omega)]
  exact hag (j - 1) _ (by omega) ⟨k+1,by omega,rfl,by rw [h2];exact Q4h hx⟩
 ·have:k=l.length:=by omega
  subst this
  rw [ltn,Q4]
  unfold j49_0
  exact Ok.some (by rw [h2];simp)
theorem Qb6 {d:Nat} {l:List (List Pk)} (h:rwL l):g21 (d+3) l=some l:=by
 obtain ⟨hl,hr⟩:=h
 rw [e21,nn,Q2,Q2,Q3,show (Nat.ble l.length l.length&&Nat.ble (l.length*24) roomMax)=true by rw [Bool.and_eq_true,Nat.ble_eq,Nat.ble_eq];unfold roomMax;omega,Q2]
 refine Ok.val (Q0b (fun j (s:Int×List (List Pk))=>∃ k:Nat,k+j=l.length∧s.1=(k:Int)∧s.2=l.take k++List.replicate (l.length - k) ([]:List Pk)) ?_ _ l.length _ (by rw [Q5];omega) ⟨0,by omega,rfl,by simp⟩)
 rintro j ⟨n,r⟩ ag ⟨k,hk,h1,h2⟩ hag
 simp only at h1 h2
 subst h1
 have hrl:r.length=l.length:=by rw [h2];simp;omega
 simp only [l21_0,l21_0_b]
 rcases Nat.lt_or_ge k l.length with hlt | hge
 ·have hx:=List.getElem?_eq_getElem hlt
  rw [ltl hx,Q2,nn,Q2,Q3,hx,Q6,Qda (hr _ (List.getElem_mem hlt)),Q6,Q2,Qt (by omega),Q2,List.getElem?_eq_getElem (show k < r.length by omega),Q6,wr1 (by omega)]
  exact hag (j - 1) _ (by omega) ⟨k+1,by omega,rfl,by rw [h2];exact Q4h hx⟩
 ·have:k=l.length:=by omega
  subst this
  rw [ltn,Q4]
  unfold j21_0
  exact Ok.some (by rw [h2];simp)
theorem Qmi {d:Nat} {r:Rg} (h:rgL r):g8 (d+4) r=some r:=by
 obtain ⟨h1,h2,h3,h4⟩:=h
 rw [e8,Qfr h1,Q6,show d+3=d+1+2 by omega,Qfu h2 h3,Q6,show d+1+2=d+3 by omega,Qb6 h4,Q6]
theorem Qdb {d:Nat} {l:List Pk} (hl:l.length≤2000000):g62 (d+2) l l=some true:=by
 rw [e62,bne_self_eq_false,Q4]
 refine (Q7 (fun (t:Bool) (i:Int)=>(t,i)) l (fun x i t k=>k t) (j62_0 (d+1)) ?_ ?_ (by rw [Q5];omega) false).trans ?_
 ·intro ag t i x hx;have hi:=(List.getElem?_eq_some_iff.1 hx).1;simp only [l62_0,l62_0_b,ltl hx,nn,Q3,hx,Q6,Q2]
  rw [e91]
  simp only [bne_self_eq_false,Q4,Bool.not_true,Q6]
  rw [wr1 (by omega)]
 ·intro ag t;simp only [l62_0,l62_0_b,ltn,Q4]
 ·rw [Qz (f:=fun _ _ t=>t)];rfl
theorem Qb7 {d:Nat} {l:List (List Pk)} (h:rwL l):g31 (d+3) l l=some true:=by
 obtain ⟨hl,hr⟩:=h
 rw [e31,bne_self_eq_false,Q4]
 refine (Q7 (fun (t:Bool) (i:Int)=>(t,i)) l (fun x i t k=>k t) (j31_0 (d+2)) ?_ ?_ (by rw [Q5];omega) false).trans ?_
 ·intro ag t i x hx;have hi:=(List.getElem?_eq_some_iff.1 hx).1;simp only [l31_0,l31_0_b,ltl hx,nn,Q3,hx,Q6,Q2]
  have:=hr _ (List.mem_of_getElem? hx)
  rw [Qdb (by omega),Q6,Bool.not_true,Q4,wr1 (by omega)]
 ·intro ag t;simp only [l31_0,l31_0_b,ltn,Q4]
 ·rw [Qz (f:=fun _ _ t=>t)];rfl
theorem Qmj {d:Nat} {r:Rg} (h:rgL r):g10 (d+4) r r=some true:=by
 obtain ⟨h1,h2,h3,h4⟩:=h
 rw [e10,Qfq h1,Q6,Bool.not_true,Q4,show d+3=d+1+2 by omega,Qft (by omega) (by omega),Q6,Bool.not_true,Q4,show d+1+2=d+3 by omega,Qb7 h4,Q6,Bool.not_true,Q4,bne_self_eq_false,Q4,bne_self_eq_false,Q4]
theorem Q6w {rows:List (List Pk)} {k:Nat} {row:List Pk} (hx:rows[k]? = some row):(rows.take (k+1)).flatten=(rows.take k).flatten++row:=by
 have hk:=(List.getElem?_eq_some_iff.1 hx).1
 have e:=(List.getElem?_eq_some_iff.1 hx).2
 rw [List.take_succ_eq_append_getElem hk,List.flatten_append,e]
 simp
theorem Qdc {rows:List (List Pk)} (k:Nat):(rows.take k).flatten.length≤rows.flatten.length:=by
 have:rows.flatten=(rows.take k).flatten++(rows.drop k).flatten:=by rw [← List.flatten_append,List.take_append_drop]
 rw [this,List.length_append];omega
theorem Qjy {d:Nat} {rows:List (List Pk)} (hl:rows.length≤1000) (hs:rows.flatten.length≤100000):g28 (d+2) rows=some rows.flatten:=by
 rw [e28]
 have lp1:∀ (m k fuel:Nat),k+m=rows.length→m < fuel→iterP (l28_1 d rows (j28_0 d)) fuel ((rows.take k).flatten,((k:Nat):Int))=some rows.flatten:=by
  intro m
  induction m with
  | zero =>
   intro k fuel e h
   obtain ⟨g,rfl⟩:∃ g,fuel=g+1:=⟨fuel - 1,by omega⟩
   obtain rfl:k=rows.length:=by omega
   simp only [iterP,l28_1,l28_1_b,ltn,Q4]
   rw [List.take_length];rfl
  | succ m ih =>
   intro k fuel e h
   obtain ⟨g,rfl⟩:∃ g,fuel=g+1:=⟨fuel - 1,by omega⟩
   have hk:k < rows.length:=by omega
   have hx:=List.getElem?_eq_getElem hk
   have h2:=Qdc (rows:=rows) (k+1)
   rw [Q6w hx,List.length_append] at h2
   simp only [iterP,l28_1,l28_1_b,ltl hx,nn,Q3,hx,Q6,Q2]
   rw [room (by omega),Q2,wr1 (by omega),← Q6w hx]
   exact ih (k+1) g (by omega) (by omega)
 have lp2:∀ (m k fuel:Nat),k+m=rows.length→m < fuel→iterP (l28_1x d rows (j28_1 d)) fuel ((rows.take k).flatten,((k:Nat):Int))=some rows.flatten:=by
  intro m
  induction m with
  | zero =>
   intro k fuel e h
   obtain ⟨g,rfl⟩:∃ g,fuel=g+1:=⟨fuel - 1,by omega⟩
   obtain rfl:k=rows.length:=by omega
   simp only [iterP,l28_1x,l28_1x_b,ltn,Q4]
   rw [List.take_length];rfl
  | succ m ih =>
   intro k fuel e h
   obtain ⟨g,rfl⟩:∃ g,fuel=g+1:=⟨fuel - 1,by omega⟩
   have hk:k < rows.length:=by omega
   have hx:=List.getElem?_eq_getElem hk
   have h2:=Qdc (rows:=rows) (k+1)
   rw [Q6w hx,List.length_append] at h2
   simp only [iterP,l28_1x,l28_1x_b,ltl hx,nn,Q3,hx,Q6,Q2]
   rw [room (by omega),Q2,wr1 (by omega),← Q6w hx]
   exact ih (k+1) g (by omega) (by omega)
 have lp0:∀ (m k fuel:Nat),k+m=rows.length→m < fuel→iterP (l28_0 d rows (j28_2 d rows)) fuel ((((rows.take k).flatten.length:Nat):Int),((k:Nat):Int))=j28_2 d rows ((rows.flatten.length:Nat):Int):=by
  intro m
  induction m with
  | zero =>
   intro k fuel e h
   obtain ⟨g,rfl⟩:∃ g,fuel=g+1:=⟨fuel - 1,by omega⟩
   obtain rfl:k=rows.length:=by omega
   simp only [iterP,l28_0,l28_0_b,ltn,Q4]
   rw [List.take_length]
  | succ m ih =>
   intro k fuel e h
   obtain ⟨g,rfl⟩:∃ g,fuel=g+1:=⟨fuel - 1,by omega⟩
   have hk:k < rows.length:=by omega
   have hx:=List.getElem?_eq_getElem hk
   have h2:=Qdc (rows:=rows) (k+1)
   have h3:=Q6w hx
   have h4:(rows.take (k+1)).flatten.length=(rows.take k).flatten.length+(rows[k]).length:=by rw [h3,List.length_append]
   simp only [iterP,l28_0,l28_0_b,ltl hx,nn,Q3,hx,Q6,Q2]
   rw [wr (n:=(((rows.take k).flatten.length:Nat):Int)+(((rows[k]).length:Nat):Int)) (by omega) (by omega),decide_eq_false (by omega),Q4,wr1 (by omega),show (((rows.take k).flatten.length:Nat):Int)+(((rows[k]).length:Nat):Int)=(((rows.take (k+1)).flatten.length:Nat):Int) by omega]
   exact ih (k+1) g (by omega) (by omega)
 refine (lp0 rows.length 0 fuelN (by omega) (by rw [Q5];omega)).trans ?_
 unfold j28_2
 have e0:IntKind.i64.wrap ((0:Int) - ((0:Nat):Int))=0:=by rw [wr (by omega) (by omega)];rfl
 rw [decide_eq_false (by omega),Q4,e0,Int.sub_zero,wr (by omega) (by omega)]
 by_cases h:rows.flatten.length=0
 ·rw [decide_eq_false (by omega),Q4]
  exact lp2 rows.length 0 fuelN (by omega) (by rw [Q5];omega)
 ·rw [decide_eq_true (by omega),Q2,show Nat.ble 0 0=true from rfl,Q2,nn,Bool.true_and,decide_eq_true (by unfold roomMax;omega),Q2,Q3,List.length_replicate,show Nat.ble (rows.flatten.length*48) roomMax=true by rw [Nat.ble_eq];unfold roomMax;omega,Q2]
  rw [show decide (0≤((0:Nat):Int))=true from rfl,Q2,show (((0:Nat):Int)).toNat=0 from rfl,show Nat.ble 0 rows.flatten.length=true by rw [Nat.ble_eq];omega,Q2,List.take_zero]
  exact lp1 rows.length 0 fuelN (by omega) (by rw [Q5];omega)
def tkF (f:Fl5) (p:Pk):Bool:=(IntKind.i64.wrap ((BitVec.ofInt IntKind.i64.bits (([p.2.1,p.2.2.1,p.2.2.2.1,p.2.2.2.2.1]:List Int).getD f.2.1.toNat 0) &&& BitVec.ofInt IntKind.i64.bits f.2.2.1).toNat:Int))==f.2.2.2.1
theorem Qmk {d:Nat} {f:Fl5} {p:Pk} (h:0≤f.2.1∧f.2.1≤3):g86 (d+2) f p=some (tkF f p):=by
 rw [e86,e55,Q6,decide_eq_true h.1,Q2,Qq (l:=[p.2.1,p.2.2.1,p.2.2.2.1,p.2.2.2.2.1]) (z:=0) (by simp only [List.length_cons,List.length_nil];omega),Q6]
 rfl
theorem Qh2 {d:Nat} {f:Fl5} {p:Pk} (h:0≤f.2.1∧f.2.1≤3):g100 (d+2) f p=some (tkF f p):=by
 have h4:f.2.1.toNat < ([p.2.1,p.2.2.1,p.2.2.2.1,p.2.2.2.2.1]:List Int).length:=by simp only [List.length_cons,List.length_nil];omega
 rw [Qre,Qrd,decide_eq_true h.1,Q2,Qt h4,Q2,Qq (l:=[p.2.1,p.2.2.1,p.2.2.2.1,p.2.2.2.2.1]) (z:=0) h4,Q6,Q6]
 rfl
structure Lr (x:Ld):Prop where
 fo:∀ f∈x.2.2.2.2.2.2.1,0≤f.2.1∧f.2.1≤3
 tl:x.2.2.2.2.2.2.2.1.length=x.2.2.2.2.2.2.1.length
 f16:x.2.2.2.2.2.2.1.length≤16
 lim:∀ c∈x.2.1,c.2.2.2.2.2.2.2≤60
 rat:∀ c∈x.2.1,1≤c.2.2.1∧c.2.2.1≤100000∧1≤c.2.2.2.1∧c.2.2.2.1≤100000
 bul:∀ c∈x.2.1,1500≤c.2.2.2.2.1∧1500≤c.2.2.2.2.2.1∧0≤c.2.2.2.2.2.2.1∧c.2.2.2.2.2.2.1≤7
theorem Qml {x:Ld} (h:lgB x=true):Lr x:=by
 unfold lgB smB at h
 simp only [Bool.and_eq_true,decide_eq_true_eq] at h
 obtain ⟨hz,hg,s1,s2,s3,s4,s5,s6,s7⟩:=h
 have G:=Qhq hg
 have hc:=G.cl
 unfold clsB at hc
 simp only [Bool.and_eq_true] at hc
 obtain ⟨_,_,_,_,_,h6,h7,h8,h9⟩:=hc
 have hm:∀ c∈x.2.1,c∈(unV x).2.1:=fun c hc=>Q2s.mem_iff.2 hc
 refine ⟨fun f hf=>?_,?_,hz.2,fun c hc=>?_,fun c hc=>?_,fun c hc=>?_⟩
 ·have:=(G.tgt f hf).2.2
  unfold filB at this
  simp only [Bool.and_eq_true,decide_eq_true_eq] at this
  omega
 ·rw [s6]
  show (x.2.2.2.2.2.2.1.map _).length=_
  rw [List.length_map]
 ·have:=List.all_eq_true.1 h9 c (hm c hc)
  unfold limB at this
  split at this
  ·simp only [decide_eq_true_eq] at this;omega
  ·simp only [beq_iff_eq] at this;omega
 ·have:=List.all_eq_true.1 h6 c (hm c hc)
  unfold rateB at this
  simp only [decide_eq_true_eq] at this
  omega
 ·have:=List.all_eq_true.1 h8 c (hm c hc)
  unfold burB at this
  simp only [decide_eq_true_eq] at this
  omega
def ffV (fs:List Fl5) (p:Pk):Int:=fiP (fun f=>tkF f p) fs 0
theorem Q9n {d:Nat} {fs:List Fl5} {p:Pk} (hl:fs.length≤1000) (h:∀ f∈fs,0≤f.2.1∧f.2.1≤3):g56 (d+3) fs p=some (ffV fs p):=by
 rw [e56]
 refine (Q7 (fun (t:Int) (i:Int)=>(t,i)) fs (fun f i t k=>oif (tkF f p) (some ((i:Nat):Int)) (k t)) (fun _=>some (-1)) ?_ ?_ (by rw [Q5];omega) 0).trans (Q0x fs 0 _)
 ·intro ag t i f hx
  have hi:=(List.getElem?_eq_some_iff.1 hx).1
  simp only [l56_0,l56_0_b,ltl hx,nn,Q3,hx,Q6,Q2]
  rw [Qmk (h f (List.mem_of_getElem? hx)),Q6,wr1 (by omega)]
 ·intro ag t;simp only [l56_0,l56_0_b,ltn,Q4];rfl
theorem Qh3 {d:Nat} {fs:List Fl5} {p:Pk} (hl:fs.length≤1000) (h:∀ f∈fs,0≤f.2.1∧f.2.1≤3):g74 (d+3) fs p=some (ffV fs p):=by
 rw [e74]
 refine (Q7 (fun (t:Int) (i:Int)=>(t,i)) fs (fun f i t k=>oif (tkF f p) (some ((i:Nat):Int)) (k t)) (fun _=>some (-1)) ?_ ?_ (by rw [Q5];omega) 0).trans (Q0x fs 0 _)
 ·intro ag t i f hx
  have hi:=(List.getElem?_eq_some_iff.1 hx).1
  simp only [l74_0,l74_0_b,ltl hx,nn,Q3,hx,Q6,Q2]
  rw [Qh2 (h f (List.mem_of_getElem? hx)),Q6,wr1 (by omega)]
 ·intro ag t;simp only [l74_0,l74_0_b,ltn,Q4];rfl
def lfA (x:Ld) (p:Pk):Int:=if ffV x.2.2.2.2.2.2.1 p≥0 then x.2.2.2.2.2.2.2.1.getD (ffV x.2.2.2.2.2.2.1 p).toNat 0 else x.2.2.2.2.2.2.2.2
theorem Qll {fs:List Fl5} {p:Pk} (h:0≤ffV fs p):ffV fs p < ((fs.length:Nat):Int):=by
 obtain ⟨j,y,h1,h2,h3,_⟩:=Q3d h
 have:=(List.getElem?_eq_some_iff.1 h2).1
 unfold ffV at *
 omega
theorem Qjz {d:Nat} {x:Ld} {p:Pk} (R:Lr x):g26 (d+4) x p=some (lfA x p):=by
 have h16:=R.f16
 rw [e26,Q9n (by omega) R.fo,Q6]
 unfold lfA
 by_cases h:ffV x.2.2.2.2.2.2.1 p≥0
 ·have:=Qll h
  have:=R.tl
  rw [decide_eq_true h,Q2,Q2,Qq (l:=x.2.2.2.2.2.2.2.1) (z:=0) (by omega),Q6,if_pos h]
 ·rw [decide_eq_false h,Q4,if_neg h]
theorem Qmm {d:Nat} {x:Ld} {p:Pk} (R:Lr x):g44 (d+4) x p=some (lfA x p):=by
 have h16:=R.f16
 rw [e44,Qh3 (by omega) R.fo,Q6]
 unfold lfA
 by_cases h:ffV x.2.2.2.2.2.2.1 p≥0
 ·have:=Qll h
  have:=R.tl
  rw [decide_eq_true h,Q2,Q2,Qq (l:=x.2.2.2.2.2.2.2.1) (z:=0) (by omega),Q6,if_pos h]
 ·rw [decide_eq_false h,Q4,if_neg h]
def limA (x:Ld) (w:Int):Int:=(clAt x.2.1 w).2.2.2.2.2.2.2
def rkB (x:Ld) (w:Int) (row:List Pk):Bool := !decide (((row.length:Nat):Int) > limA x w)&&row.all (fun p=>pkOk p&&(lfA x p==w))
def rsB (r:Rg):Bool:=decide (r.2.2.1.length=(lvV r.1.2.2.2.1).length)&&(decide (-1≤r.2.2.2.1∧r.2.2.2.1 < (((lvV r.1.2.2.2.1).length:Nat):Int))&&decide (0≤r.2.2.2.2∧r.2.2.2.2≤1000000))
def rnB (r:Rg):Bool:=lgB r.1&&(tkB r.1 r.2.1&&(rsB r&&(allI (fun w i=>rkB r.1 w (r.2.2.1.getD i [])) (lvV r.1.2.2.2.1) 0&&apV r.2.2.1.flatten)))
theorem Q9o {F:List Int} {w:Int} (h:w∈lvV F):0≤w∧w < ((F.length:Nat):Int):=by
 obtain ⟨j,x,h1,h2,h3⟩:=Qac _ _ h
 have:=(List.getElem?_eq_some_iff.1 h1).1
 omega
theorem Q4i {l:List (List Pk)} {i:Nat} (h:i < l.length):l[i]? = some (l.getD i []):=by
 rw [List.getD_eq_getElem?_getD,List.getElem?_eq_getElem h];rfl
theorem Qh4 {x:Ld} {rows:List (List Pk)} {W:List Int} (R:Lr x) (hW:∀ w∈W,vI x.2.1 w) (hl:rows.length=W.length) (h:allI (fun w i=>rkB x w (rows.getD i [])) W 0=true):(∀ row∈rows,row.length≤60)∧∀ row∈rows,∀ p∈row,pkOk p=true:=by
 rw [Q0e] at h
 have key:∀ row∈rows,row.length≤60∧∀ p∈row,pkOk p=true:=by
  intro row hr
  obtain ⟨i,hi⟩:=List.getElem?_of_mem hr
  have hlt:=(List.getElem?_eq_some_iff.1 hi).1
  have hw:=List.getElem?_eq_getElem (l:=W) (i:=i) (by omega)
  have:=h i _ hw
  rw [Nat.zero_add,List.getD_eq_getElem?_getD,hi] at this
  unfold rkB limA at this
  simp only [Option.getD_some,Bool.and_eq_true,Bool.not_eq_true',decide_eq_false_iff_not,List.all_eq_true] at this
  have hv:=hW _ (List.mem_of_getElem? hw)
  have h60:=R.lim _ (List.mem_of_getElem? (Q0c hv))
  exact ⟨by omega,fun p hp=>(this.2 p hp).1⟩
 exact ⟨fun row hr=>(key row hr).1,fun row hr=>(key row hr).2⟩
theorem Q8b {B:Nat}:∀ {rows:List (List Pk)},(∀ row∈rows,row.length≤B)→rows.flatten.length≤rows.length*B
 | [],_=>by simp
 | r::rows,h=>by
  have:=Q8b (B:=B) (rows:=rows) fun row hr=>h row (by simp [hr])
  have:=h r (by simp)
  rw [List.flatten_cons,List.length_append,List.length_cons,Nat.add_mul,Nat.one_mul]
  omega
theorem Qmn {d:Nat} {r:Rg} (h:ldSz r.1):g9 (d+28) r=some (rnB r):=by
 rw [e9,Qfm h,Q6]
 unfold rnB rsB j9_3
 cases hg:lgB r.1 with
 | false=>rfl
 | true =>
  have L:=Qmd hg
  have R:=Qml hg
  have h24:=L.n24
  have hf:=L.fl
  have hv:=Q3x (F:=r.1.2.2.2.1)
  rw [Bool.not_true,Q4,show d+27=d+26+1 by omega,Q9m (by omega),Q6,Bool.true_and]
  cases hb:tkB r.1 r.2.1 with
  | false=>rfl
  | true =>
   rw [Bool.not_true,Q4,Q5e (by omega) hf,Q6,Bool.true_and]
   unfold j9_2
   by_cases a:r.2.2.1.length=(lvV r.1.2.2.2.1).length
   case neg=>rw [show ((((r.2.2.1.length:Nat):Int)) != (((lvV r.1.2.2.2.1).length:Nat):Int))=true by simp;omega,Q2,Q2,decide_eq_false a];rfl
   rw [show ((((r.2.2.1.length:Nat):Int)) != (((lvV r.1.2.2.2.1).length:Nat):Int))=false by simp;omega,Q4,decide_eq_true a,Bool.true_and]
   by_cases a1:r.2.2.2.1 < -1
   ·rw [decide_eq_true a1,Q2,Q2,decide_eq_false (show ¬ (-1≤r.2.2.2.1∧r.2.2.2.1 < (((lvV r.1.2.2.2.1).length:Nat):Int)) by omega)];rfl
   rw [decide_eq_false a1,Q4]
   by_cases a2:r.2.2.2.1≥(((lvV r.1.2.2.2.1).length:Nat):Int)
   ·rw [decide_eq_true a2,Q2,Q2,decide_eq_false (show ¬ (-1≤r.2.2.2.1∧r.2.2.2.1 < (((lvV r.1.2.2.2.1).length:Nat):Int)) by omega)];rfl
   rw [decide_eq_false a2,Q4,decide_eq_true (show -1≤r.2.2.2.1∧r.2.2.2.1 < (((lvV r.1.2.2.2.1).length:Nat):Int) by omega),Bool.true_and]
   by_cases a3:r.2.2.2.2 < 0
   ·rw [decide_eq_true a3,Q2,Q2,decide_eq_false (show ¬ (0≤r.2.2.2.2∧r.2.2.2.2≤1000000) by omega)];rfl
   rw [decide_eq_false a3,Q4]
   by_cases a4:r.2.2.2.2 > 1000000
   ·rw [decide_eq_true a4,Q2,decide_eq_false (show ¬ (0≤r.2.2.2.2∧r.2.2.2.2≤1000000) by omega)];rfl
   rw [decide_eq_false a4,Q4,decide_eq_true (show 0≤r.2.2.2.2∧r.2.2.2.2≤1000000 by omega),Bool.true_and]
   have hW:∀ w∈lvV r.1.2.2.2.1,vI r.1.2.1 w:=fun w hw=>by obtain ⟨q1,q2⟩:=Q9o hw;exact ⟨q1,by omega⟩
   refine (Q7 (fun (b:Bool) (i:Int)=>(b,i)) (lvV r.1.2.2.2.1) (fun w i b k=>oif (rkB r.1 w (r.2.2.1.getD i [])) (k b) (some false)) (fun b=>j9_0 (d+26+1) r b) ?_ ?_ (by rw [Q5];omega) false).trans ?_
   ·intro ag b i w hx
    have hi:=(List.getElem?_eq_some_iff.1 hx).1
    have hv':=hW w (List.mem_of_getElem? hx)
    have h60:=R.lim _ (List.mem_of_getElem? (Q0c hv'))
    simp only [l9_0,l9_0_b,ltl hx,nn,Q3,hx,Q6,Q2,Qc7 hx]
    rw [Q4i (l:=r.2.2.1) (by omega)]
    simp only [Q6]
    rw [decide_eq_true hv'.1,Q2,Q0c hv',Q6]
    unfold rkB limA
    by_cases b1:((((r.2.2.1.getD i []).length:Nat):Int)) > (clAt r.1.2.1 w).2.2.2.2.2.2.2
    ·rw [decide_eq_true b1,Q2,Bool.not_true,Bool.false_and,Q4]
    ·rw [decide_eq_false b1,Q4,Bool.not_false,Bool.true_and]
     refine (Q7 (fun (b:Bool) (j:Int)=>(b,j)) (r.2.2.1.getD i []) (fun p _ b k=>oif (pkOk p&&(lfA r.1 p==w)) (k b) (some false)) (fun b=>ag (b,((i+1:Nat):Int))) ?_ ?_ (by rw [Q5];omega) b).trans ?_
     ·intro ag' b' j p hp
      have hj:=(List.getElem?_eq_some_iff.1 hp).1
      simp only [l9_1,l9_1_b,ltl hp,nn,Q3,hp,Q6,Q2]
      rw [show d+26+1=d+25+2 by omega,Q8a,Q6,show d+25+2=d+23+4 by omega,Qjz R,Q6,wr1 (by omega)]
      cases pkOk p with
      | false=>rfl
      | true =>
       rw [Bool.not_true,Q4,Bool.true_and]
       by_cases e:lfA r.1 p=w
       ·rw [show (lfA r.1 p != w)=false by rw [e];exact bne_self_eq_false _,Q4,show (lfA r.1 p==w)=true from beq_iff_eq.2 e,Q2]
       ·rw [show (lfA r.1 p != w)=true from bne_iff_ne.2 e,Q2,show (lfA r.1 p==w)=false from beq_eq_false_iff_ne.2 e,Q4]
     ·intro ag' b'
      simp only [l9_1,l9_1_b,ltn,Q4]
      unfold j9_1
      rw [wr1 (by omega)]
     ·rw [Q0j (p:=fun p=>pkOk p&&(lfA r.1 p==w))]
   ·intro ag t;simp only [l9_0,l9_0_b,ltn,Q4]
   ·rw [Qo]
    cases hk:allI (fun w i=>rkB r.1 w (r.2.2.1.getD i [])) (lvV r.1.2.2.2.1) 0 with
    | false=>rfl
    | true =>
     obtain ⟨r1,r2⟩:=Qh4 R hW a hk
     have:=Q8b r1
     rw [Q2,Bool.true_and]
     unfold j9_0
     rw [show d+26+1=d+25+2 by omega,Qjy (by omega) (by omega),Q6,show d+25+2=d+22+5 by omega,Qfz (by omega),Q6]
def allS {α τ:Type} (p:α→Nat→τ→Bool) (f:α→Nat→τ→τ):List α→Nat→τ→Bool
 | [],_,_=>true
 | x::r,i,t=>p x i t&&allS p f r (i+1) (f x i t)
theorem Q6x {α τ β:Type} {p:α→Nat→τ→Bool} {f:α→Nat→τ→τ} {step:α→Nat→τ→(τ→Option β)→Option β} {no:Option β} {fin:τ→Option β} (I:Nat→τ→Prop):∀ (l:List α) (i:Nat) (t:τ),I i t→(∀ j x t k,l[j]? = some x→I (i+j) t→step x (i+j) t k=oif (p x (i+j) t) (k (f x (i+j) t)) no∧(p x (i+j) t=true→I (i+j+1) (f x (i+j) t)))→rangeR step fin l i t=oif (allS p f l i t) (fin (foldI f l i t)) no
 | [],i,t,_,_=>rfl
 | x::r,i,t,hI,h=>by
  simp only [rangeR,foldI,allS]
  obtain ⟨h1,h2⟩:=h 0 x t (fun t'=>rangeR step fin r (i+1) t') rfl hI
  rw [Nat.add_zero] at h1 h2
  rw [h1]
  cases hp:p x i t with
  | false=>rfl
  | true =>
   rw [Q2,Bool.true_and]
   exact Q6x I r (i+1) _ (h2 hp) (fun j y t k hy ht=>by
    have:=h (j+1) y t k (by simpa using hy)
    rw [show i+(j+1)=i+1+j by omega] at this
    exact this ht)
abbrev Bs:=Bool×List Int
def ppS (x:Ld) (w:Int) (p:Pk) (_:Nat) (t:Bs):Bool:=pkOk p&&((lfA x p==w) && !(t.2.any fun z=>z==p.1))
def ffS (p:Pk) (_:Nat) (t:Bs):Bs:=(t.1,t.2++[p.1])
def prS (x:Ld) (W:List Int) (row:List Pk) (i:Nat) (t:Bs):Bool := !decide (((row.length:Nat):Int) > limA x (W.getD i 0))&&allS (ppS x (W.getD i 0)) ffS row 0 t
def frS (row:List Pk) (_:Nat) (t:Bs):Bs:=(t.1,t.2++row.map fun p=>p.1)
theorem Qeh:∀ (row:List Pk) (i:Nat) (t:Bs),foldI ffS row i t=frS row 0 t
 | [],i,t=>by simp [foldI,frS]
 | p::r,i,t=>by
  simp only [foldI]
  rw [Qeh r (i+1)]
  simp [frS,ffS]
theorem Qlm {x:Ld} {w:Int}:∀ (row:List Pk) (i:Nat) (t:Bs),allS (ppS x w) ffS row i t=true↔(∀ p∈row,pkOk p=true∧lfA x p=w)∧(∀ p∈row,p.1∉t.2)∧(row.map fun p=>p.1).Nodup
 | [],i,t=>by simp [allS]
 | p::r,i,t=>by
  simp only [allS,Bool.and_eq_true,Qlm r (i+1),ppS,ffS,beq_iff_eq,Bool.not_eq_true',List.any_eq_false,List.mem_cons,forall_eq_or_imp,List.map_cons,List.nodup_cons,List.mem_append,List.mem_singleton]
  constructor
  ·rintro ⟨⟨a1,a2,a3⟩,b1,b2,b3⟩
   refine ⟨⟨⟨a1,a2⟩,b1⟩,⟨fun hm=>a3 _ hm rfl,fun q hq hm=>b2 q hq (Or.inl hm)⟩,fun hm=>?_,b3⟩
   obtain ⟨q,hq,e⟩:=List.mem_map.1 hm
   exact b2 q hq (Or.inr (Or.inl e))
  ·rintro ⟨⟨⟨a1,a2⟩,b1⟩,⟨c1,c2⟩,n1,n2⟩
   refine ⟨⟨a1,a2,fun z hz e=>c1 (e▸hz)⟩,b1,fun q hq hm=>?_,n2⟩
   rcases hm with hm | hm | hm
   ·exact c2 q hq hm
   ·exact n1 (List.mem_map.2 ⟨q,hq,hm⟩)
   ·simp at hm
theorem Qln {x:Ld} {W:List Int}:∀ (rows:List (List Pk)) (i:Nat) (t:Bs),allS (prS x W) frS rows i t=true↔(∀ j row,rows[j]? = some row→rkB x (W.getD (i+j) 0) row=true)∧(∀ p∈rows.flatten,p.1∉t.2)∧(rows.flatten.map fun p=>p.1).Nodup
 | [],i,t=>by simp [allS]
 | row::rows,i,t=>by
  simp only [allS,Bool.and_eq_true,Qln rows (i+1),prS,Qlm,frS,List.flatten_cons,List.mem_append,List.map_append,List.nodup_append]
  have hrow:rkB x (W.getD i 0) row=true↔(!decide (((row.length:Nat):Int) > limA x (W.getD i 0)))=true∧∀ p∈row,pkOk p=true∧lfA x p=W.getD i 0:=by
   unfold rkB
   simp only [Bool.and_eq_true,List.all_eq_true,beq_iff_eq]
  constructor
  ·rintro ⟨⟨a1,a2,a3,a4⟩,b1,b2,b3⟩
   refine ⟨fun j r hj=>?_,fun p hp hm=>?_,a4,b3,fun y hy z hz e=>?_⟩
   ·cases j with
    | zero=>simp only [List.getElem?_cons_zero,Option.some.injEq] at hj;subst hj;exact hrow.2 ⟨a1,a2⟩
    | succ j=>have:=b1 j r (by simpa using hj);rw [show i+(j+1)=i+1+j by omega];exact this
   ·rcases hp with hp | hp
    ·exact a3 p hp hm
    ·exact b2 p hp (Or.inl hm)
   ·obtain ⟨q,hq,rfl⟩:=List.mem_map.1 hz
    exact b2 q hq (Or.inr (e▸hy))
  ·rintro ⟨h1,h2,n1,n2,n3⟩
   obtain ⟨a1,a2⟩:=hrow.1 (h1 0 row rfl)
   refine ⟨⟨a1,a2,fun p hp=>h2 p (Or.inl hp),n1⟩,fun j r hj=>?_,fun p hp hm=>?_,n2⟩
   ·have:=h1 (j+1) r (by simpa using hj);rw [show i+(j+1)=i+1+j by omega] at this;exact this
   ·rcases hm with hm | hm
    ·exact h2 p (Or.inr hp) hm
    ·exact n3 _ hm _ (List.mem_map.2 ⟨p,hp,rfl⟩) rfl
theorem Qmo {x:Ld} {rows:List (List Pk)} {W:List Int} (hl:rows.length=W.length):allS (prS x W) frS rows 0 (false,[])=(allI (fun w i=>rkB x w (rows.getD i [])) W 0&&apV rows.flatten):=by
 rw [Bool.eq_iff_iff,Qln,Bool.and_eq_true,Q0e,Qoj]
 constructor
 ·rintro ⟨h1,_,h3⟩
  refine ⟨fun j w hw=>?_,fun p hp=>?_,h3⟩
  ·have hj:=(List.getElem?_eq_some_iff.1 hw).1
   have:=h1 j _ (Q4i (l:=rows) (i:=j) (by omega))
   rw [Nat.zero_add] at this ⊢
   rw [List.getD_eq_getElem?_getD (l:=W),hw] at this
   exact this
  ·obtain ⟨row,hr,hp⟩:=List.mem_flatten.1 hp
   obtain ⟨j,hj⟩:=List.getElem?_of_mem hr
   have:=h1 j _ hj
   unfold rkB at this
   simp only [Bool.and_eq_true,List.all_eq_true] at this
   exact (this.2 p hp).1
 ·rintro ⟨h1,h2,h3⟩
  refine ⟨fun j row hj=>?_,fun p _ hm=>by simp at hm,h3⟩
  have hlt:=(List.getElem?_eq_some_iff.1 hj).1
  have:=h1 j _ (Qq (l:=W) (i:=j) (z:=0) (by omega))
  rw [Nat.zero_add] at this ⊢
  rw [List.getD_eq_getElem?_getD (l:=rows),hj] at this
  exact this
theorem Qk0 {d:Nat} {l:List Int} {n:Int} (hl:l.length < 4194304):g45 (d+1) l n=some (l.any fun x=>x==n):=by
 rw [e45]
 refine (Q7 (fun (t:Bool) (i:Int)=>(t,i)) l (fun x _ t k=>oif (x==n) (some true) (k t)) (fun _=>some false) ?_ ?_ (by rw [Q5];exact hl) false).trans ?_
 ·intro ag t i x hx;have hi:=(List.getElem?_eq_some_iff.1 hx).1;simp only [l45_0,l45_0_b,ltl hx,nn,Q3,hx,Q6,Q2];rw [wr1 (by omega)]
 ·intro ag t;simp only [l45_0,l45_0_b,ltn,Q4];rfl
 ·exact Q4k l 0 false
theorem Qqg {d:Nat} {r:Rg} (R:Lr r.1) {W:List Int} {w:Int} {i:Nat} (hw:W[i]? = some w) (hW:W.length≤1000) {row:List Pk} {k:Bs→Option Bool} (t:Bs) (ht:t.2.length≤10000) (hr:row.length≤60) :
  iterP (l18_1 (d+4) r W (i:Int) row (fun b _ l=>k (b,l))) fuelN (t.1,t.2,0)=oif (allS (ppS r.1 w) ffS row 0 t) (k (frS row 0 t)) (some false):=by
 refine (Q7 (fun (t:Bs) (i:Int)=>(t.1,t.2,i)) row (fun p _ t k=>oif (pkOk p) (oif (lfA r.1 p==w) (obind (g45 (d+4) t.2 p.1) fun h=>oif h (some false) (oif (Nat.ble ((t.2.length+[p.1].length)*8) roomMax) (k (t.1,t.2++[p.1])) none)) (some false)) (some false)) (fun t=>k t) ?_ ?_ (by rw [Q5];omega) t).trans ?_
 ·intro ag' b' j p hp
  have hj:=(List.getElem?_eq_some_iff.1 hp).1
  simp only [l18_1,l18_1_b,ltl hp,nn,Q3,hp,Q6,Q2,Qc7 hw,hw]
  rw [show d+4=d+1+3 by omega,Qjx,Q6,show d+1+3=d+4 by omega,Qmm R,Q6,wr1 (by omega)]
  cases pkOk p with
  | false=>rfl
  | true =>
   rw [Bool.not_true,Q4,Q2]
   by_cases e:lfA r.1 p=w
   ·rw [show (lfA r.1 p != w)=false by rw [e];exact bne_self_eq_false _,Q4,show (lfA r.1 p==w)=true from beq_iff_eq.2 e,Q2]
   ·rw [show (lfA r.1 p != w)=true from bne_iff_ne.2 e,Q2,show (lfA r.1 p==w)=false from beq_eq_false_iff_ne.2 e,Q4]
 ·intro ag' b'
  simp only [l18_1,l18_1_b,ltn,Q4]
 ·rw [Q6x (p:=ppS r.1 w) (f:=ffS) (fun j t=>t.2.length≤10000+j) row 0 t (by omega) ?_,Qeh]
  intro j p t k hp hI
  have hj:=(List.getElem?_eq_some_iff.1 hp).1
  rw [show d+4=d+3+1 by omega,Qk0 (by omega),Q6,room (by simp;omega),Q2]
  refine ⟨?_,fun _=>by unfold ffS;simp;omega⟩
  unfold ppS
  cases pkOk p with
  | false=>rfl
  | true =>
   rw [Q2,Bool.true_and]
   cases (lfA r.1 p==w) with
   | false=>rfl
   | true=>rw [Q2,Bool.true_and];cases (t.2.any fun z=>z==p.1)<;>rfl
theorem Qk1 {d:Nat} {r:Rg} (h:ldSz r.1):g18 (d+13) r=some (rnB r):=by
 rw [e18,Qju h,Q6]
 unfold rnB rsB
 cases hg:lgB r.1 with
 | false=>rfl
 | true =>
  have L:=Qmd hg
  have R:=Qml hg
  have h24:=L.n24
  have hf:=L.fl
  have hv:=Q3x (F:=r.1.2.2.2.1)
  cases hb:tkB r.1 r.2.1 with
  | false=>rfl
  | true =>
   rw [Bool.true_and,Bool.true_and,Bool.true_and,Bool.not_true,Q4,show d+12=d+10+2 by omega,Q5f (by omega) hf,Q6]
   unfold j18_2
   by_cases a:r.2.2.1.length=(lvV r.1.2.2.2.1).length
   case neg=>rw [show ((((r.2.2.1.length:Nat):Int)) != (((lvV r.1.2.2.2.1).length:Nat):Int))=true by simp;omega,Q2,Q2,decide_eq_false a];rfl
   rw [show ((((r.2.2.1.length:Nat):Int)) != (((lvV r.1.2.2.2.1).length:Nat):Int))=false by simp;omega,Q4,decide_eq_true a,Bool.true_and,show d+10+2=d+11+1 by omega,Q2o,Q6,wr (by omega) (by omega)]
   by_cases a1:-1≤r.2.2.2.1∧r.2.2.2.1 < (((lvV r.1.2.2.2.1).length:Nat):Int)
   case neg=>rw [decide_eq_false (show ¬ (-1≤r.2.2.2.1∧r.2.2.2.1≤(((lvV r.1.2.2.2.1).length:Nat):Int) - 1) by omega),Bool.not_false,Q2,Q2,decide_eq_false a1];rfl
   rw [decide_eq_true (show -1≤r.2.2.2.1∧r.2.2.2.1≤(((lvV r.1.2.2.2.1).length:Nat):Int) - 1 by omega),Bool.not_true,Q4,decide_eq_true a1,Bool.true_and,Q2o,Q6]
   cases decide (0≤r.2.2.2.2∧r.2.2.2.2≤1000000) with
   | false=>rfl
   | true =>
    rw [Bool.not_true,Q4,Bool.true_and,← Qmo a]
    have hW:∀ w∈lvV r.1.2.2.2.1,vI r.1.2.1 w:=fun w hw=>by obtain ⟨q1,q2⟩:=Q9o hw;exact ⟨q1,by omega⟩
    refine (Q7 (fun (t:Bs) (i:Int)=>(t.1,t.2,i)) r.2.2.1 (fun row i t k=>oif (decide (((row.length:Nat):Int) > limA r.1 ((lvV r.1.2.2.2.1).getD i 0))) (some false) (iterP (l18_1 (d+11+1) r (lvV r.1.2.2.2.1) (i:Int) row (fun b _ l=>k (b,l))) fuelN (t.1,t.2,0))) (fun _=>some true) ?_ ?_ (by rw [Q5];omega) (false,[])).trans ?_
    ·intro ag t i row hx
     have hi:=(List.getElem?_eq_some_iff.1 hx).1
     have hlt:i < (lvV r.1.2.2.2.1).length:=by omega
     have hw:=Qq (l:=lvV r.1.2.2.2.1) (i:=i) (z:=0) hlt
     have hv':=hW _ (List.mem_of_getElem? hw)
     simp only [l18_0,l18_0_b,ltl hx,nn,Q3,hx,Q6,Q2]
     rw [Qt hlt,Q2,hw,Q6,decide_eq_true hv'.1,Q2,Q0c hv',Q6]
     rw [show j18_1 (d+11+1) ag (i:Int)=fun b _ l=>ag (b,l,((i+1:Nat):Int)) from by
      funext b n l
      unfold j18_1
      rw [wr1 (by omega)]]
     rfl
    ·intro ag t;simp only [l18_0,l18_0_b,ltn,Q4];rfl
    ·rw [Q6x (p:=prS r.1 (lvV r.1.2.2.2.1)) (f:=frS) (fun i t=>t.2.length≤60*i) r.2.2.1 0 (false,[]) (by simp) ?_]
     ·cases allS (prS r.1 (lvV r.1.2.2.2.1)) frS r.2.2.1 0 (false,[])<;>rfl
     ·intro j row t k hj hI
      rw [Nat.zero_add] at hI ⊢
      have hi:=(List.getElem?_eq_some_iff.1 hj).1
      have hw:=Qq (l:=lvV r.1.2.2.2.1) (i:=j) (z:=0) (by omega)
      have hv':=hW _ (List.mem_of_getElem? hw)
      have h60:=R.lim _ (List.mem_of_getElem? (Q0c hv'))
      unfold prS
      by_cases b1:((row.length:Nat):Int) > limA r.1 ((lvV r.1.2.2.2.1).getD j 0)
      ·rw [decide_eq_true b1,Q2,Bool.not_true,Bool.false_and,Q4]
       exact ⟨rfl,fun h=>absurd h (by simp)⟩
      ·rw [decide_eq_false b1,Q4,Bool.not_false,Bool.true_and]
       unfold limA at b1
       rw [show d+11+1=d+8+4 by omega,Qqg R hw (by omega) t (by omega) (by omega)]
       refine ⟨rfl,fun _=>?_⟩
       unfold frS
       simp only [List.length_append,List.length_map]
       omega
structure Ro (r:Rg):Prop where
 lk:Lk r.1
 lr:Lr r.1
 t1:r.2.1.1.length=r.1.2.1.length
 t2:r.2.1.2.length=r.1.2.1.length
 rl:r.2.2.1.length=(lvV r.1.2.2.2.1).length
 rb:∀ row∈r.2.2.1,row.length≤60
 rp:∀ row∈r.2.2.1,∀ p∈row,pkOk p=true
 la:-1≤r.2.2.2.1∧r.2.2.2.1 < (((lvV r.1.2.2.2.1).length:Nat):Int)
 nw:0≤r.2.2.2.2∧r.2.2.2.2≤1000000
theorem Qok {r:Rg} (h:rnB r=true):Ro r:=by
 unfold rnB rsB at h
 simp only [Bool.and_eq_true,decide_eq_true_eq] at h
 obtain ⟨h1,h2,⟨h3,h4,h5⟩,h6,h7⟩:=h
 have L:=Qmd h1
 have R:=Qml h1
 obtain ⟨t1,t2⟩:=Qmc h2
 have hf:=L.fl
 obtain ⟨r1,r2⟩:=Qh4 R (fun w hw=>by obtain ⟨q1,q2⟩:=Q9o hw;exact ⟨q1,by omega⟩) h3 h6
 exact ⟨L,R,t1,t2,h3,r1,r2,h4,h5⟩
theorem Qol {a m:Int} (h0:0≤a) (h1:a < m):a.tmod m=a:=Int.tmod_eq_of_lt h0 h1
theorem Qom {a m:Int} (h0:m≤a) (h1:a < 2*m):a.tmod m=a - m:=by
 have e:a=(a - m)+m:=by omega
 rw [Int.tmod_eq_emod_of_nonneg (by omega),e,Int.add_emod_right,Int.emod_eq_of_lt (by omega) (by omega)]
 omega
theorem Qon {x:Ld} (L:Lk x):∀ (f:Nat) (n:Int),n < ((x.2.1.length:Nat):Int)→∀ w∈wyV x.2.2.1 f n,w≤n
 | 0,n,_,w,h=>by simp [wyV] at h
 | f+1,n,hn,w,h=>by
  simp only [wyV] at h
  split at h
  ·simp at h
  ·rename_i h0
   rcases List.mem_cons.1 h with rfl | h
   ·omega
   ·have hg:=Qq (l:=x.2.2.1) (i:=n.toNat) (z:=-1) (by have:=L.pl;omega)
    have:=L.pd _ _ hg
    have:=Qon L f _ (by omega) w h
    omega
theorem Qlo {A:List Int} {s:Int}:∀ (W:List Int),fdV A s W=-1∨fdV A s W∈W
 | []=>Or.inl rfl
 | w::r=>by
  simp only [fdV]
  split
  ·exact Or.inr (by simp)
  ·rcases Qlo (A:=A) (s:=s) r with h | h
   ·exact Or.inl h
   ·exact Or.inr (List.mem_cons.2 (Or.inr h))
theorem Qmp {x:Ld} (L:Lk x) {t:Tk} {w s:Int} (hv:vI x.2.1 w):(lenV x t w s==w)=decide (t.1.getD w.toNat 0≥s):=by
 obtain ⟨w0,w1⟩:=hv
 have hg:=Qq (l:=x.2.2.1) (i:=w.toNat) (z:=-1) (by have:=L.pl;omega)
 have hp:=L.pd _ _ hg
 have hw:wyV x.2.2.1 24 w=w::wyV x.2.2.1 23 (x.2.2.1.getD w.toNat (-1)):=by
  show (if w < 0 then [] else w::wyV x.2.2.1 23 (x.2.2.1.getD w.toNat (-1)))=_
  rw [if_neg (by omega)]
 unfold lenV wyL
 rw [hw]
 simp only [fdV]
 by_cases h:t.1.getD w.toNat 0≥s
 ·rw [if_pos h,decide_eq_true h,beq_self_eq_true]
 ·rw [if_neg h,decide_eq_false h]
  refine beq_eq_false_iff_ne.2 fun e=>?_
  rcases Qlo (A:=t.1) (s:=s) (wyV x.2.2.1 23 (x.2.2.1.getD w.toNat (-1))) with h1 | h1
  ·rw [h1] at e;omega
  ·have h2:=Qon L 23 _ (by omega) _ h1
   rw [e] at h2;omega
def wA (r:Rg) (i:Nat):Int:=(lvV r.1.2.2.2.1).getD i 0
def szA (r:Rg) (i:Nat):Int:=((r.2.2.1.getD i []).headD (0,0,0,0,0,0)).2.2.2.2.2
def canB (r:Rg) (i:Nat):Bool := !(r.2.2.1.getD i []).isEmpty&&mayV r.1 r.2.1 (wA r i) (szA r i)
def ownB (r:Rg) (i:Nat):Bool:=decide (r.2.1.1.getD (wA r i).toNat 0≥szA r i)
def prA (r:Rg) (i:Nat):Int:=(clAt r.1.2.1 (wA r i)).2.2.2.2.2.2.1
def mA (r:Rg):Int:=(((lvV r.1.2.2.2.1).length:Nat):Int)
def poA (r:Rg) (i:Nat):Int:=if (i:Int) > r.2.2.2.1 then (i:Int) - r.2.2.2.1 - 1 else (i:Int) - r.2.2.2.1 - 1+mA r
def rkA (r:Rg) (i:Nat):Int:=(if ownB r i=true then 0 else 1000)+prA r i*100+poA r i
def IsCh (r:Rg) (c:Int):Prop:=(c=-1∧∀ i:Nat,(i:Int) < mA r→canB r i=false)∨∃ j:Nat,(j:Int) < mA r∧c=(j:Int)∧canB r j=true∧∀ i:Nat,(i:Int) < mA r→canB r i=true→rkA r j≤rkA r i
theorem Qh5 {r:Rg} (O:Ro r):mA r≤24:=by
 have h24:=O.lk.n24
 have hf:=O.lk.fl
 have hv:=Q3x (F:=r.1.2.2.2.1)
 unfold mA;omega
theorem Q5z {r:Rg} {i:Nat} (h:(i:Int) < mA r):(lvV r.1.2.2.2.1)[i]? = some (wA r i):=by
 unfold mA at h
 exact Qq (by omega)
theorem Qnw {r:Rg} (O:Ro r) {i:Nat} (h:(i:Int) < mA r):vI r.1.2.1 (wA r i):=by
 have hf:=O.lk.fl
 obtain ⟨q1,q2⟩:=Q9o (List.mem_of_getElem? (Q5z h))
 exact ⟨q1,by omega⟩
theorem Qb8 {r:Rg} (O:Ro r) {i:Nat} (h:(i:Int) < mA r):0≤prA r i∧prA r i≤7:=by
 obtain ⟨_,_,b3,b4⟩:=O.lr.bul _ (List.mem_of_getElem? (Q0c (Qnw O h)))
 exact ⟨b3,b4⟩
theorem Q4j {r:Rg} (O:Ro r) {i:Nat} (h:(i:Int) < mA r):0≤poA r i∧poA r i < mA r:=by
 obtain ⟨l1,l2⟩:=O.la
 have e:mA r=(((lvV r.1.2.2.2.1).length:Nat):Int):=rfl
 unfold poA
 split<;>omega
theorem Qh6 {r:Rg} (O:Ro r) {i j:Nat} (h:(i:Int) < mA r) (hj:(j:Int) < mA r) (e:poA r i=poA r j):i=j:=by
 obtain ⟨l1,l2⟩:=O.la
 unfold poA at e
 split at e<;>split at e<;>omega
theorem Qmq {r:Rg} (O:Ro r) {i j:Nat} (h:(i:Int) < mA r) (hj:(j:Int) < mA r) (e:rkA r i=rkA r j):i=j:=by
 have h24:=Qh5 O
 obtain ⟨p1,p2⟩:=Qb8 O h
 obtain ⟨q1,q2⟩:=Qb8 O hj
 obtain ⟨a1,a2⟩:=Q4j O h
 obtain ⟨b1,b2⟩:=Q4j O hj
 refine Qh6 O h hj ?_
 unfold rkA at e
 split at e<;>split at e<;>omega
theorem Qei {r:Rg} (O:Ro r) {a b:Int} (ha:IsCh r a) (hb:IsCh r b):a=b:=by
 rcases ha with ⟨a1,a2⟩ | ⟨i,i1,rfl,i2,i3⟩<;>rcases hb with ⟨b1,b2⟩ | ⟨j,j1,rfl,j2,j3⟩
 ·omega
 ·rw [a2 j j1] at j2;exact absurd j2 (by simp)
 ·rw [b2 i i1] at i2;exact absurd i2 (by simp)
 ·have h1:=i3 j j1 j2
  have h2:=j3 i i1 i2
  rw [Qmq O i1 j1 (by omega)]
theorem Qk2 {d:Nat} {r:Rg} (O:Ro r) {i:Nat} (h:(i:Int) < mA r):g68 (d+1) (ownB r i) (prA r i) (i:Int) r.2.2.2.1 (mA r)=some (rkA r i):=by
 have h24:=Qh5 O
 obtain ⟨l1,l2⟩:=O.la
 have em:mA r=(((lvV r.1.2.2.2.1).length:Nat):Int):=rfl
 obtain ⟨p1,p2⟩:=Qb8 O h
 obtain ⟨a1,a2⟩:=Q4j O h
 have e:(IntKind.i64.wrap ((IntKind.i64.wrap ((IntKind.i64.wrap ((i:Int) - r.2.2.2.1)) - 1))+mA r)).tmod (mA r)=poA r i:=by
  rw [wr (n:=(i:Int) - r.2.2.2.1) (by omega) (by omega),wr (n:=(i:Int) - r.2.2.2.1 - 1) (by omega) (by omega),wr (by omega) (by omega)]
  unfold poA
  by_cases c:(i:Int) > r.2.2.2.1
  ·rw [if_pos c,Qom (by omega) (by omega)];omega
  ·rw [if_neg c,Qol (by omega) (by omega)]
 rw [e68,show (mA r==0)=false from beq_eq_false_iff_ne.2 (by omega),Q4,e,wr (n:=prA r i*100) (by omega) (by omega),wr (n:=prA r i*100+poA r i) (by omega) (by omega)]
 unfold rkA
 cases ownB r i with
 | true=>rw [Bool.not_true,Q4,if_pos rfl];congr 1;omega
 | false=>rw [Bool.not_false,Q2,wr (by omega) (by omega),if_neg (by simp)];congr 1;omega
def JS (r:Rg) (k:Nat) (a b:Int):Prop:=(a=-1∧∀ i:Nat,i < k→canB r i=false)∨∃ j:Nat,j < k∧a=(j:Int)∧b=rkA r j∧canB r j=true∧∀ i:Nat,i < k→canB r i=true→rkA r j≤rkA r i
theorem Qh7 {r:Rg} {k:Nat} {a b:Int} (h:JS r k a b) (hc:canB r k=false):JS r (k+1) a b:=by
 have st:∀ i,i < k+1→i < k∨i=k:=fun i hi=>by omega
 rcases h with ⟨h1,h2⟩ | ⟨j,j1,j2,j3,j4,j5⟩
 ·refine Or.inl ⟨h1,fun i hi=>?_⟩
  rcases st i hi with hi | rfl
  ·exact h2 i hi
  ·exact hc
 ·refine Or.inr ⟨j,by omega,j2,j3,j4,fun i hi hi2=>?_⟩
  rcases st i hi with hi | rfl
  ·exact j5 i hi hi2
  ·rw [hc] at hi2;exact absurd hi2 (by simp)
theorem Qh8 {r:Rg} {k:Nat} {a b:Int} (h:JS r k a b) (hc:canB r k=true) (hl:a < 0∨rkA r k < b):JS r (k+1) (k:Int) (rkA r k):=by
 have st:∀ i,i < k+1→i < k∨i=k:=fun i hi=>by omega
 refine Or.inr ⟨k,by omega,rfl,rfl,hc,fun i hi hi2=>?_⟩
 rcases st i hi with hi | rfl
 ·rcases h with ⟨h1,h2⟩ | ⟨j,j1,j2,j3,j4,j5⟩
  ·rw [h2 i hi] at hi2;exact absurd hi2 (by simp)
  ·have:=j5 i hi hi2;omega
 ·exact Int.le_refl _
theorem Qmr {r:Rg} {k:Nat} {a b:Int} (h:JS r k a b) (h0:¬ a < 0) (hl:¬ rkA r k < b):JS r (k+1) a b:=by
 have st:∀ i,i < k+1→i < k∨i=k:=fun i hi=>by omega
 rcases h with ⟨h1,h2⟩ | ⟨j,j1,j2,j3,j4,j5⟩
 ·omega
 ·refine Or.inr ⟨j,by omega,j2,j3,j4,fun i hi hi2=>?_⟩
  rcases st i hi with hi | rfl
  ·exact j5 i hi hi2
  ·omega
theorem Qg0 {d:Nat} {r:Rg} (O:Ro r):Ok (g34 (d+4) r) fun z=>IsCh r z.1∧z.2=r:=by
 have h24:=O.lk.n24
 have hf:=O.lk.fl
 have hv:=Q3x (F:=r.1.2.2.2.1)
 have hrl:=O.rl
 have em:mA r=(((lvV r.1.2.2.2.1).length:Nat):Int):=rfl
 rw [e34,show d+3=d+1+2 by omega,Q5f (by omega) hf,Q6]
 refine Q4o (fun (t:Int×Int) (i:Int)=>(t.1,t.2,i)) (lvV r.1.2.2.2.1) (fun k t=>JS r k t.1 t.2) ?_ ?_ fuelN 0 (-1,0) (by rw [Q5];omega) (by omega) (Or.inl ⟨rfl,fun i hi=>absurd hi (by omega)⟩)
 ·rintro ag ⟨a,b⟩ k w hx hJ hag
  have hk:=(List.getElem?_eq_some_iff.1 hx).1
  have hkm:(k:Int) < mA r:=by omega
  have hw:wA r k=w:=by have:=Q5z hkm;rw [hx] at this;injection this with this;exact this.symm
  obtain ⟨w0,w1⟩:=Qnw O hkm
  have hv':=Qnw O hkm
  rw [hw] at w0 w1 hv'
  simp only [l34_0,l34_0_b,ltl hx,nn,Q3,hx,Q6,Q2,Qc7 hx]
  rw [Q4i (l:=r.2.2.1) (by omega),Q6,Q6,wr1 (by omega)]
  cases hr:r.2.2.1.getD k [] with
  | nil =>
   rw [show ((((([]:List Pk).length:Nat):Int))==0)=true from rfl,Q2]
   exact hag (a,b) (Qh7 hJ (by unfold canB;rw [hr];rfl))
  | cons p ps =>
   have hsz:szA r k=p.2.2.2.2.2:=by unfold szA;rw [hr];rfl
   have hcan:canB r k=mayV r.1 r.2.1 w p.2.2.2.2.2:=by unfold canB;rw [hr,hw,hsz];rfl
   have hown:ownB r k=decide (r.2.1.1.getD w.toNat 0≥p.2.2.2.2.2):=by unfold ownB;rw [hw,hsz]
   rw [show ((((p::ps).length:Nat):Int)==0)=false from beq_eq_false_iff_ne.2 (by simp only [List.length_cons];omega),Q4,List.getElem?_cons_zero,Q6,show d+1+2=d+3 by omega,Qmf O.lk O.t1 O.t2 (by omega),Q6]
   cases hm:mayV r.1 r.2.1 w p.2.2.2.2.2 with
   | false =>
    rw [Bool.not_false,Q2]
    exact hag (a,b) (Qh7 hJ (by rw [hcan,hm]))
   | true =>
    have hc:canB r k=true:=by rw [hcan,hm]
    rw [Bool.not_true,Q4,show d+3=d+1+2 by omega,Q89 O.lk O.t1 (by omega),Q6,decide_eq_true w0,Q2,Q0c hv',Q6,Qmp O.lk hv',← hown]
    have hrank:=Qk2 (d:=d+2) O hkm
    unfold prA at hrank
    rw [hw] at hrank
    rw [show d+1+2=d+2+1 by omega]
    refine Ok.bind ⟨_,hrank,rfl⟩ fun z hz=>?_
    subst hz
    by_cases c1:a < 0
    ·rw [decide_eq_true c1,Q2]
     exact hag ((k:Int),rkA r k) (Qh8 hJ hc (Or.inl c1))
    ·rw [decide_eq_false c1,Q4]
     by_cases c2:rkA r k < b
     ·rw [decide_eq_true c2,Q2]
      exact hag ((k:Int),rkA r k) (Qh8 hJ hc (Or.inr c2))
     ·rw [decide_eq_false c2,Q4]
      exact hag (a,b) (Qmr hJ c1 c2)
 ·rintro ag ⟨a,b⟩ hJ
  simp only [l34_0,l34_0_b,ltn,Q4]
  refine Ok.some ⟨?_,rfl⟩
  rcases hJ with ⟨h1,h2⟩ | ⟨j,j1,j2,j3,j4,j5⟩
  ·exact Or.inl ⟨h1,fun i hi=>h2 i (by omega)⟩
  ·exact Or.inr ⟨j,by omega,j2,j4,fun i hi hi2=>j5 i (by omega) hi2⟩
def JI (r:Rg) (k:Nat) (a:Int) (b:Bool):Prop:=(a=-1∧∀ i:Nat,(i:Int) < mA r→poA r i < (k:Int)→canB r i=false)∨∃ j:Nat,(j:Int) < mA r∧poA r j < (k:Int)∧a=(j:Int)∧b=ownB r j∧canB r j=true∧∀ i:Nat,(i:Int) < mA r→poA r i < (k:Int)→canB r i=true→rkA r j≤rkA r i
theorem Qh9 {r:Rg} (O:Ro r) {k n:Nat} (hn:(n:Int) < mA r) (hp:poA r n=(k:Int)) {i:Nat} (hi:(i:Int) < mA r) (h:poA r i < ((k+1:Nat):Int)):poA r i < (k:Int)∨i=n:=by
 by_cases c:poA r i < (k:Int)
 ·exact Or.inl c
 ·exact Or.inr (Qh6 O hi hn (by omega))
theorem Qha {r:Rg} (O:Ro r) {k n:Nat} (hn:(n:Int) < mA r) (hp:poA r n=(k:Int)) {a:Int} {b:Bool} (h:JI r k a b) (hc:canB r n=false):JI r (k+1) a b:=by
 rcases h with ⟨h1,h2⟩ | ⟨j,j0,j1,j2,j3,j4,j5⟩
 ·refine Or.inl ⟨h1,fun i hi hi1=>?_⟩
  rcases Qh9 O hn hp hi hi1 with hi1 | rfl
  ·exact h2 i hi hi1
  ·exact hc
 ·refine Or.inr ⟨j,j0,by omega,j2,j3,j4,fun i hi hi1 hi2=>?_⟩
  rcases Qh9 O hn hp hi hi1 with hi1 | rfl
  ·exact j5 i hi hi1 hi2
  ·rw [hc] at hi2;exact absurd hi2 (by simp)
theorem Qk3 {r:Rg} (O:Ro r) {k n:Nat} (hn:(n:Int) < mA r) (hp:poA r n=(k:Int)) {a:Int} {b:Bool} (h:JI r k a b) (h0:a < 0) (hc:canB r n=true):JI r (k+1) (n:Int) (ownB r n):=by
 rcases h with ⟨h1,h2⟩ | ⟨j,j0,j1,j2,j3,j4,j5⟩
 ·refine Or.inr ⟨n,hn,by omega,rfl,rfl,hc,fun i hi hi1 hi2=>?_⟩
  rcases Qh9 O hn hp hi hi1 with hi1 | rfl
  ·rw [h2 i hi hi1] at hi2;exact absurd hi2 (by simp)
  ·exact Int.le_refl _
 ·omega
theorem Qhb {r:Rg} (O:Ro r) {k n j:Nat} (hn:(n:Int) < mA r) (hj:(j:Int) < mA r) (hp:poA r n=(k:Int)) {b:Bool} (h:JI r k (j:Int) b) (hc:canB r n=true) (hl:rkA r n < rkA r j):JI r (k+1) (n:Int) (ownB r n):=by
 rcases h with ⟨h1,h2⟩ | ⟨j',j0,j1,j2,j3,j4,j5⟩
 ·omega
 ·obtain rfl:j=j':=by omega
  refine Or.inr ⟨n,hn,by omega,rfl,rfl,hc,fun i hi hi1 hi2=>?_⟩
  rcases Qh9 O hn hp hi hi1 with hi1 | rfl
  ·have:=j5 i hi hi1 hi2;omega
  ·exact Int.le_refl _
theorem Qhc {r:Rg} (O:Ro r) {k n j:Nat} (hn:(n:Int) < mA r) (hp:poA r n=(k:Int)) {b:Bool} (h:JI r k (j:Int) b) (hl:rkA r j≤rkA r n):JI r (k+1) (j:Int) b:=by
 rcases h with ⟨h1,h2⟩ | ⟨j',j0,j1,j2,j3,j4,j5⟩
 ·omega
 ·obtain rfl:j=j':=by omega
  refine Or.inr ⟨j,j0,by omega,rfl,j3,j4,fun i hi hi1 hi2=>?_⟩
  rcases Qh9 O hn hp hi hi1 with hi1 | rfl
  ·exact j5 i hi hi1 hi2
  ·exact hl
theorem Qqh {r:Rg} (O:Ro r) {k:Nat} (hk:(k:Int) < mA r):∃ n:Nat,(n:Int) < mA r∧poA r n=(k:Int)∧(IntKind.i64.wrap (r.2.2.2.1+((k+1:Nat):Int))).tmod (mA r)=(n:Int):=by
 have h24:=Qh5 O
 obtain ⟨l1,l2⟩:=O.la
 have em:mA r=(((lvV r.1.2.2.2.1).length:Nat):Int):=rfl
 rw [wr (by omega) (by omega)]
 by_cases c:r.2.2.2.1+((k+1:Nat):Int) < mA r
 ·refine ⟨(r.2.2.2.1+((k+1:Nat):Int)).toNat,by omega,?_,?_⟩
  ·unfold poA;rw [if_pos (by omega)];omega
  ·rw [Qol (by omega) c];omega
 ·refine ⟨(r.2.2.2.1+((k+1:Nat):Int) - mA r).toNat,by omega,?_,?_⟩
  ·unfold poA;rw [if_neg (by omega)];omega
  ·rw [Qom (by omega) (by omega)];omega
theorem Qlp {r:Rg} (O:Ro r) {n j:Nat} (hn:(n:Int) < mA r) (hj:(j:Int) < mA r) (h1:ownB r n=true) (h2:ownB r j=false):rkA r n < rkA r j:=by
 have h24:=Qh5 O
 obtain ⟨p1,p2⟩:=Qb8 O hn
 obtain ⟨q1,q2⟩:=Qb8 O hj
 obtain ⟨a1,a2⟩:=Q4j O hn
 obtain ⟨b1,b2⟩:=Q4j O hj
 unfold rkA
 rw [if_pos h1,if_neg (by rw [h2];simp)]
 omega
theorem Qms {r:Rg} (O:Ro r) {n j:Nat} (hn:(n:Int) < mA r) (hj:(j:Int) < mA r) (h:ownB r n=ownB r j) (hp:prA r n < prA r j):rkA r n < rkA r j:=by
 have h24:=Qh5 O
 obtain ⟨a1,a2⟩:=Q4j O hn
 obtain ⟨b1,b2⟩:=Q4j O hj
 unfold rkA
 rw [h]
 omega
theorem Qmt {r:Rg} {n j:Nat} (h:ownB r n=ownB r j) (hp:¬ prA r n < prA r j) (ho:poA r j < poA r n):rkA r j≤rkA r n:=by
 unfold rkA
 rw [h]
 omega
theorem Qk4 {d:Nat} {r:Rg} (O:Ro r):Ok (g36 (d+3) r) fun z=>IsCh r z.1∧z.2=r:=by
 have h24:=O.lk.n24
 have hf:=O.lk.fl
 have hv:=Q3x (F:=r.1.2.2.2.1)
 have hrl:=O.rl
 have em:mA r=(((lvV r.1.2.2.2.1).length:Nat):Int):=rfl
 rw [e36,show d+2=d+1+1 by omega,Q5e (by omega) hf,Q6]
 have key:∀ (rem k fuel:Nat) (a:Int) (b:Bool),k+rem=(lvV r.1.2.2.2.1).length→rem < fuel→JI r k a b→Ok (iterP (l36_0 (d+1+1) r (lvV r.1.2.2.2.1) (j36_0 (d+1+1) r)) fuel (a,b,((k+1:Nat):Int))) fun z=>IsCh r z.1∧z.2=r:=by
  intro rem
  induction rem with
  | zero =>
   intro k fuel a b e h hJ
   obtain ⟨g,rfl⟩:∃ g,fuel=g+1:=⟨fuel - 1,by omega⟩
   simp only [iterP,l36_0,l36_0_b]
   rw [decide_eq_false (show ¬ ((k+1:Nat):Int)≤(((lvV r.1.2.2.2.1).length:Nat):Int) by omega),Q4]
   refine Ok.some ⟨?_,rfl⟩
   have po:∀ i:Nat,(i:Int) < mA r→poA r i < (k:Int):=fun i hi=>by have:=(Q4j O hi).2;omega
   rcases hJ with ⟨h1,h2⟩ | ⟨j,j0,j1,j2,j3,j4,j5⟩
   ·exact Or.inl ⟨h1,fun i hi=>h2 i hi (po i hi)⟩
   ·exact Or.inr ⟨j,j0,j2,j4,fun i hi hi2=>j5 i hi (po i hi) hi2⟩
  | succ rem ih =>
   intro k fuel a b e h hJ
   obtain ⟨g,rfl⟩:∃ g,fuel=g+1:=⟨fuel - 1,by omega⟩
   obtain ⟨n,hn,hp,hix⟩:=Qqh O (k:=k) (by omega)
   have hix':(IntKind.i64.wrap (r.2.2.2.1+((k+1:Nat):Int))).tmod (((lvV r.1.2.2.2.1).length:Nat):Int)=(n:Int):=hix
   have hx:=Q5z hn
   have hv':=Qnw O hn
   obtain ⟨w0,w1⟩:=hv'
   have t1:=O.t1
   have hg:=Qq (l:=r.2.1.1) (i:=(wA r n).toNat) (z:=0) (by omega)
   have hrow:=Q4i (l:=r.2.2.1) (i:=n) (by omega)
   have next:=ih (k+1) g
   have hw2:IntKind.i64.wrap (((k+1:Nat):Int)+1)=((k+1+1:Nat):Int):=wr1 (by omega)
   simp only [iterP,l36_0,l36_0_b]
   rw [decide_eq_true (show ((k+1:Nat):Int)≤(((lvV r.1.2.2.2.1).length:Nat):Int) by omega),Q2,show (((((lvV r.1.2.2.2.1).length:Nat):Int))==0)=false from beq_eq_false_iff_ne.2 (by omega),Q4]
   simp only [hix',nn,Q2,Q3,Qc7 hx,hx,Q6,hrow]
   cases hr:r.2.2.1.getD n [] with
   | nil =>
    rw [show ((((([]:List Pk).length:Nat):Int))==0)=true from rfl,Q2]
    unfold j36_2
    rw [Q2,hw2]
    exact next a b (by omega) (by omega) (Qha O hn hp hJ (by unfold canB;rw [hr];rfl))
   | cons p ps =>
    have hsz:szA r n=p.2.2.2.2.2:=by unfold szA;rw [hr];rfl
    have hcan:canB r n=mayV r.1 r.2.1 (wA r n) p.2.2.2.2.2:=by unfold canB;rw [hr,hsz];rfl
    have hown:decide (r.2.1.1.getD (wA r n).toNat 0≥p.2.2.2.2.2)=ownB r n:=by unfold ownB;rw [hsz]
    rw [show ((((p::ps).length:Nat):Int)==0)=false from beq_eq_false_iff_ne.2 (by simp only [List.length_cons];omega),Q4,List.getElem?_cons_zero,Q6,show d+1+1=d+2 by omega,Qh1 O.lk O.t1 O.t2 w1,Q6]
    rw [show d+1+1=d+2 by omega] at next
    unfold j36_2
    rw [hw2]
    cases hm:mayV r.1 r.2.1 (wA r n) p.2.2.2.2.2 with
    | false =>
     rw [Bool.not_false,Q2]
     exact next a b (by omega) (by omega) (Qha O hn hp hJ (by rw [hcan,hm]))
    | true =>
     have hc:canB r n=true:=by rw [hcan,hm]
     rw [Bool.not_true,Q4,decide_eq_true w0,Q2,hg,Q6]
     simp only [hix',nn,Q2,Q3,hrow,hr,List.getElem?_cons_zero,Q6,hown]
     have j1:∀ c1 c2 c3 c4:Bool,j36_1 (d+2) r (lvV r.1.2.2.2.1) (iterP (l36_0 (d+2) r (lvV r.1.2.2.2.1) (j36_0 (d+2) r)) g) a b ((k+1:Nat):Int) (r.2.1.1.getD (wA r n).toNat 0) p c1 c2 c3 c4=oif c4 (iterP (l36_0 (d+2) r (lvV r.1.2.2.2.1) (j36_0 (d+2) r)) g ((n:Int),ownB r n,((k+1+1:Nat):Int))) (iterP (l36_0 (d+2) r (lvV r.1.2.2.2.1) (j36_0 (d+2) r)) g (a,b,((k+1+1:Nat):Int))):=by
      intro c1 c2 c3 c4
      unfold j36_1
      rw [hix',hown,hw2]
     simp only [j1,Q2,Q4]
     by_cases c1:a < 0
     ·rw [decide_eq_true c1,Q2]
      exact next _ _ (by omega) (by omega) (Qk3 O hn hp hJ c1 hc)
     rw [decide_eq_false c1,Q4]
     obtain ⟨j,j0,rfl,hbj,hpj⟩:∃ j:Nat,(j:Int) < mA r∧a=(j:Int)∧b=ownB r j∧poA r j < (k:Int):=by
      rcases hJ with ⟨h1,h2⟩ | ⟨j,j0,j1,j2,j3,_⟩
      ·omega
      ·exact ⟨j,j0,j2,j3,j1⟩
     subst hbj
     have hxj:=Q5z j0
     have hvj:=Qnw O j0
     have hvn:=Qnw O hn
     have cmp:decide ((clAt r.1.2.1 (wA r n)).2.2.2.2.2.2.1 < (clAt r.1.2.1 (wA r j)).2.2.2.2.2.2.1)=decide (prA r n < prA r j):=rfl
     have fin:ownB r n=ownB r j→Ok (oif (decide (prA r n < prA r j)) (iterP (l36_0 (d+2) r (lvV r.1.2.2.2.1) (j36_0 (d+2) r)) g ((n:Int),ownB r n,((k+1+1:Nat):Int))) (iterP (l36_0 (d+2) r (lvV r.1.2.2.2.1) (j36_0 (d+2) r)) g ((j:Int),ownB r j,((k+1+1:Nat):Int)))) fun z=>IsCh r z.1∧z.2=r:=by
      intro ho
      by_cases c:prA r n < prA r j
      ·rw [decide_eq_true c,Q2]
       exact next _ _ (by omega) (by omega) (Qhb O hn j0 hp hJ hc (Qms O hn j0 ho c))
      ·rw [decide_eq_false c,Q4]
       exact next _ _ (by omega) (by omega) (Qhc O hn hp hJ (Qmt ho c (by omega)))
     simp only [Q0c hvn,decide_eq_true hvn.1,nn,Q2,Q3,Qc7 hxj,hxj,Q6,decide_eq_true hvj.1,Q0c hvj,cmp]
     cases ho:ownB r n with
     | true =>
      cases hb:ownB r j with
      | false =>
       simp only [Bool.not_false,Q2]
       rw [← ho]
       exact next _ _ (by omega) (by omega) (Qhb O hn j0 hp hJ hc (Qlp O hn j0 ho hb))
      | true =>
       simp only [Bool.not_true,Q2,Q4,beq_self_eq_true]
       have:=fin (by rw [ho,hb])
       rw [ho,hb] at this
       exact this
     | false =>
      cases hb:ownB r j with
      | false =>
       simp only [Q4,beq_self_eq_true,Q2]
       have:=fin (by rw [ho,hb])
       rw [ho,hb] at this
       exact this
      | true =>
       rw [Q4,show (false==true)=false from rfl,Q4]
       rw [← hb]
       have:=Qlp O j0 hn hb ho
       exact next _ _ (by omega) (by omega) (Qhc O hn hp hJ (by omega))
 exact key (lvV r.1.2.2.2.1).length 0 fuelN (-1) false (by omega) (by rw [Q5];omega) (Or.inl ⟨rfl,fun i hi hp=>by have:=(Q4j O hi).1;omega⟩)
noncomputable def chV (r:Rg):Int×Bool:=open Classical in if rnB r=true then (if h:∃ j:Nat,(j:Int) < mA r∧IsCh r (j:Int) then (wA r h.choose,true) else (0,false)) else (0,false)
theorem Qhd {r:Rg} (O:Ro r) {j:Nat} (h1:(j:Int) < mA r) (h2:IsCh r (j:Int)) (hg:rnB r=true):chV r=(wA r j,true):=by
 unfold chV
 have h:∃ j:Nat,(j:Int) < mA r∧IsCh r (j:Int):=⟨j,h1,h2⟩
 rw [if_pos hg,dif_pos h]
 have e:=Qei O h.choose_spec.2 h2
 rw [show h.choose=j by omega]
theorem Qhe {r:Rg} (O:Ro r) (h2:IsCh r (-1)) (hg:rnB r=true):chV r=(0,false):=by
 unfold chV
 rw [if_pos hg,dif_neg]
 rintro ⟨j,h1,h3⟩
 have e:=Qei O h2 h3
 omega
theorem Qg1 {d:Nat} {r:Rg} (h:ldSz r.1):g14 (d+29) r=some (chV r):=by
 rw [e14,Qmn h,Q6]
 cases hg:rnB r with
 | false=>unfold chV;rw [if_neg (by rw [hg];simp)];rfl
 | true =>
  have O:=Qok hg
  have h24:=O.lk.n24
  have hf:=O.lk.fl
  have hv:=Q3x (F:=r.1.2.2.2.1)
  obtain ⟨z,hz,hI,hr⟩:=Qk4 (d:=d+25) O
  rw [Bool.not_true,Q4,show d+28=d+25+3 by omega,hz,Q6,hr]
  by_cases c:z.1 < 0
  ·have e:z.1=-1:=by rcases hI with ⟨h1,_⟩ | ⟨j,_,h1,_⟩<;>omega
   rw [e] at hI
   rw [decide_eq_true c,Q2,Qhe O hI hg]
  ·obtain ⟨j,j0,hj⟩:∃ j:Nat,(j:Int) < mA r∧z.1=(j:Int):=by
    rcases hI with ⟨h1,_⟩ | ⟨j,h0,h1,_⟩
    ·omega
    ·exact ⟨j,h0,h1⟩
   rw [hj] at hI
   rw [decide_eq_false c,Q4,show d+25+3=d+27+1 by omega,Q5e (by omega) hf,Q6,hj,nn,Q2,Q3,Qc7 (Q5z j0),Q2,Q5z j0,Q6,Qhd O j0 hI hg]
theorem Qdd {d:Nat} {r:Rg} (h:ldSz r.1):g13 (d+14) r=some (chV r):=by
 rw [e13,Qk1 h,Q6]
 cases hg:rnB r with
 | false=>unfold chV;rw [if_neg (by rw [hg];simp)];rfl
 | true =>
  have O:=Qok hg
  have h24:=O.lk.n24
  have hf:=O.lk.fl
  have hv:=Q3x (F:=r.1.2.2.2.1)
  obtain ⟨z,hz,hI,hr⟩:=Qg0 (d:=d+9) O
  rw [Bool.not_true,Q4,show d+13=d+9+4 by omega,hz,Q6,hr]
  by_cases c:z.1 < 0
  ·have e:z.1=-1:=by rcases hI with ⟨h1,_⟩ | ⟨j,_,h1,_⟩<;>omega
   rw [e] at hI
   rw [decide_eq_true c,Q2,Qhe O hI hg]
  ·obtain ⟨j,j0,hj⟩:∃ j:Nat,(j:Int) < mA r∧z.1=(j:Int):=by
    rcases hI with ⟨h1,_⟩ | ⟨j,h0,h1,_⟩
    ·omega
    ·exact ⟨j,h0,h1⟩
   rw [hj] at hI
   rw [decide_eq_false c,Q4,show d+9+4=d+11+2 by omega,Q5f (by omega) hf,Q6,hj,nn,Q2,Q3,Qc7 (Q5z j0),Q2,Q5z j0,Q6,Qhd O j0 hI hg]
abbrev tyC:Ty:=.pair (.int .i64) (.pair (.int .i64) (.pair (.int .i64) (.pair (.int .i64) (.pair (.int .i64) (.pair (.int .i64) (.pair (.int .i64) (.int .i64)))))))
abbrev tyF:Ty:=.pair (.int .i64) (.pair (.int .i64) (.pair (.int .i64) (.pair (.int .i64) (.int .i64))))
abbrev tyLd:Ty:=.pair .str (.pair (.sl tyC) (.pair (.sl (.int .i64)) (.pair (.sl (.int .i64)) (.pair (.sl (.int .i64)) (.pair (.sl (.int .i64)) (.pair (.sl tyF) (.pair (.sl (.int .i64)) (.int .i64))))))))
abbrev tyT:Ty:=.pair (.sl (.int .i64)) (.sl (.int .i64))
theorem Qoo {x:Ld} (h:Wf tyLd x):ldW x:=by
 obtain ⟨h1,⟨h2,_⟩,⟨h3,_⟩,⟨h4,_⟩,⟨h5,_⟩,⟨h6,_⟩,⟨h7,_⟩,⟨h8,_⟩,_⟩:=h
 exact ⟨h1,h2,h3,h4,h5,h6,h7,h8⟩
def tkW (t:Tk):Prop:=t.1.length≤9223372036854775807∧t.2.length≤9223372036854775807
theorem Qop {t:Tk} (h:Wf tyT t):tkW t:=by
 obtain ⟨⟨h2,_⟩,⟨h3,_⟩⟩:=h
 exact ⟨h2,h3⟩
abbrev tyPk:Ty:=.pair (.int .i64) (.pair (.int .i64) (.pair (.int .i64) (.pair (.int .i64) (.pair (.int .i64) (.int .i64)))))
abbrev tyRn:Ty:=.pair tyLd (.pair tyT (.pair (.sl (.sl tyPk)) (.pair (.int .i64) (.int .i64))))
theorem Qoq {r:Rg} (h:Wf tyRn r):rgW r:=by
 obtain ⟨h1,h2,⟨h3,h4⟩,_⟩:=h
 exact ⟨Qoo h1,Qop h2,h3,fun q hq=>(h4 q hq).1⟩
theorem Qk5 {d:Nat} {r:Rg} (hw:rgW r):g5 (d+32) r=some true:=by
 rw [e5]
 obtain ⟨z,hz,hB⟩:=Qmh (d:=d+28) hw
 rw [show d+31=d+28+3 by omega,hz,Q6]
 by_cases h:z < 0
 ·rw [decide_eq_true h,Q2]
 have hl:=hB.resolve_left h
 have hT:g8 (d+28+3) r=some r:=by rw [show d+28+3=d+27+4 by omega];exact Qmi hl
 have hE:g10 (d+28+3) r r=some true:=by rw [show d+28+3=d+27+4 by omega];exact Qmj hl
 have hA:g14 (d+28+3) r=some (chV r):=by rw [show d+28+3=d+2+29 by omega];exact Qg1 hl.1.sz
 have hS:g13 (d+28+3) r=some (chV r):=by rw [show d+28+3=d+17+14 by omega];exact Qdd hl.1.sz
 rw [decide_eq_false h,Q4,hT,Q6,hS,Q6,Q6,hA,Q6,bne_self_eq_false,Q4,beq_self_eq_true,Bool.not_true,Q4,Q6,hE,Q6,Bool.not_true,Q4]
def tysLaw:List Ty:=[tyRn]
theorem lawAny:LawAny Tryz.prog pvAnn (32) 5 tysLaw :=
 ⟨rfl,rfl,rfl,fun a h=>⟨true,Qk5 (d:=0) (Qoq (h ⟨_,a⟩ (List.Mem.head _))),rfl⟩⟩
end Go.Proofs.YthodldbjhlpjhaaGreatDoor
