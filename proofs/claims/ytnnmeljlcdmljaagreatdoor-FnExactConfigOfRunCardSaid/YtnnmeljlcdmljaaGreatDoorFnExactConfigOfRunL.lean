/-
  Configurations by value. And what stood behind it in 6 texts.
  Conditions: said at the theorems.
-/
import Derived.Test.YtnnmeljlcdmljaaGreatDoorK15
import Derived.Test.YtnnmeljlcdmljaaGreatDoorRepW
set_option linter.all false
namespace Go.Proofs.YtnnmeljlcdmljaaGreatDoor
open Go.Ev Go.Pv
instance dec4:DecidableEq (Int×Int×Int×Int):=inferInstance
theorem Qsv {p:Cl8→Bool}:∀ {l:List Cl8},(∀ y∈l,p y=true)→l.takeWhile p=l
 | [],_=>rfl
 | z::l,h=>by rw [List.takeWhile_cons,if_pos (h z (by simp)),Qsv (fun y hy=>h y (by simp [hy]))]
def Qk7 (l:List Cl8) (x:Cl8):List Cl8:=(l.takeWhile fun y=>decide (y.1 < x.1))++x::l.dropWhile fun y=>decide (y.1 < x.1)
def Qw4 (l:List Cl8):List Cl8:=Q09 (fun x _ t=>Qk7 t x) l 0 []
theorem Qg0 {l:List Cl8} {x:Cl8}:(Qk7 l x).Perm (x::l):=by
 unfold Qk7
 refine List.perm_middle.trans (List.Perm.cons x ?_)
 rw [List.takeWhile_append_dropWhile]
theorem Qql {l:List Cl8} {x:Cl8}:(Qk7 l x).length=l.length+1:=by rw [Qg0.length_eq];rfl
theorem Q99 {x:Cl8}:∀ {l:List Cl8},Srt kyC l→∀ y∈l.dropWhile (fun y=>decide (y.1 < x.1)),x.1≤y.1
 | [],_,y,hy=>by simp at hy
 | z::l,h,y,hy=>by
  rw [List.dropWhile_cons] at hy
  have h':=List.pairwise_cons.1 h
  by_cases hz:z.1 < x.1
  ·rw [if_pos (by simpa using hz)] at hy
   exact Q99 h'.2 y hy
  ·rw [if_neg (by simpa using hz)] at hy
   rcases Z2 hy with rfl | hy
   ·omega
   ·have:=h'.1 y hy;unfold kyC at this;omega
theorem Q9a {x:Cl8}:∀ {l:List Cl8},∀ y∈l.takeWhile (fun y=>decide (y.1 < x.1)),y.1 < x.1
 | [],y,hy=>by simp at hy
 | z::l,y,hy=>by
  rw [List.takeWhile_cons] at hy
  by_cases hz:z.1 < x.1
  ·rw [if_pos (by simpa using hz)] at hy
   rcases Z2 hy with rfl | hy
   ·exact hz
   ·exact Q9a y hy
  ·rw [if_neg (by simpa using hz)] at hy;simp at hy
theorem Qqm {l:List Cl8} {x:Cl8} (h:Srt kyC l):Srt kyC (Qk7 l x):=by
 have hl:Srt kyC (l.takeWhile (fun y=>decide (y.1 < x.1))++l.dropWhile (fun y=>decide (y.1 < x.1))):=by rw [List.takeWhile_append_dropWhile];exact h
 unfold Qk7 Srt
 unfold Srt at hl
 rw [List.pairwise_append] at hl ⊢
 refine ⟨hl.1,List.pairwise_cons.2 ⟨fun y hy=>Q99 h y hy,hl.2.1⟩,fun a ha b hb=>?_⟩
 rcases Z2 hb with rfl | hb
 ·have:=Q9a a ha;unfold kyC;omega
 ·exact hl.2.2 a ha b hb
theorem Qe2:∀ (l:List Cl8) (i:Nat) (t:List Cl8),Srt kyC t→Srt kyC (Q09 (fun x _ t=>Qk7 t x) l i t)∧(Q09 (fun x _ t=>Qk7 t x) l i t).Perm (l++t)
 | [],i,t,h=>⟨h,List.Perm.refl _⟩
 | x::r,i,t,h=>by
  simp only [Q09]
  obtain ⟨h1,h2⟩:=Qe2 r (i+1) (Qk7 t x) (Qqm h)
  refine ⟨h1,h2.trans ?_⟩
  exact (List.Perm.append_left r Qg0).trans List.perm_middle
theorem Qqn {l:List Cl8}:Srt kyC (Qw4 l):=(Qe2 l 0 [] List.Pairwise.nil).1
theorem Q49 {l:List Cl8}:(Qw4 l).Perm l:=by
 have:=(Qe2 l 0 [] List.Pairwise.nil).2
 rw [List.append_nil] at this;exact this
theorem Qni {l:List Cl8} (h:Qm3 l=true):(l.map (·.1)).Nodup:=by
 rw [List.nodup_iff_pairwise_ne,List.pairwise_map,List.pairwise_iff_getElem]
 intro i j hi hj hij e
 have:=Qki h j i _ _ hij (Z6 hi) (Z6 hj)
 omega
theorem Qu7 {l:List Cl8} (h:(l.map (·.1)).Nodup) {a b:Cl8} (ha:a∈l) (hb:b∈l) (e:a.1=b.1):a=b:=by
 obtain ⟨i,hi⟩:=List.getElem?_of_mem ha
 obtain ⟨j,hj⟩:=List.getElem?_of_mem hb
 obtain ⟨hi1,hi2⟩:=Z0 hi
 obtain ⟨hj1,hj2⟩:=Z0 hj
 have:=(List.getElem_inj (h₀:=show i < (l.map (·.1)).length by simpa using hi1) (h₁:=show j < (l.map (·.1)).length by simpa using hj1) h).1 (by simp [hi2,hj2,e])
 subst this
 rw [← hi2,← hj2]
theorem Qwv {l S:List Cl8} (h:Stb kyC l S) (hd:(l.map (·.1)).Nodup):S=Qw4 l:=by
 refine List.Perm.eq_of_pairwise (le:=fun a b=>kyC a≤kyC b) (fun a b ha hb h1 h2=>?_) h.srt Qqn (h.perm.trans Q49.symm)
 unfold kyC at h1 h2
 exact Qu7 hd (h.perm.mem_iff.1 ha) (Q49.mem_iff.1 hb) (by omega)
theorem Qk8 {c:Cf} {l:List Cl8} (h:gdB c=true) (hp:c.2.1.Perm l):(l.map (·.1)).Nodup:=by
 have hc:=(Qo2 h).cl
 unfold Qfn at hc
 simp only [Z8] at hc
 exact (hp.map _).nodup_iff.1 (Qni hc.2.1)
def dfL (x:Ld):Int:=if 0≤x.2.2.2.2.2.2.2.2∧x.2.2.2.2.2.2.2.2 < ((x.2.1.length:Nat):Int) then (Q0l x.2.1 x.2.2.2.2.2.2.2.2).1 else 0
def unV (x:Ld):Cf:=(x.1,Qw4 x.2.1,x.2.2.2.2.2.2.1,dfL x)
theorem Qww {x:Ld} {c:Cf} (h1:c.1=x.1) (h2:Stb kyC x.2.1 c.2.1) (h3:c.2.2.1=x.2.2.2.2.2.2.1) (h4:c.2.2.2=dfL x):gdB c=gdB (unV x)∧(gdB (unV x)=true→c=unV x):=by
 obtain ⟨c1,c2,c3,c4⟩:=c
 simp only at h1 h2 h3 h4
 subst h1 h3 h4
 by_cases hd:(x.2.1.map (·.1)).Nodup
 ·have e:=Qwv h2 hd
  subst e
  exact ⟨rfl,fun _=>rfl⟩
 ·have e1:gdB (x.1,c2,x.2.2.2.2.2.2.1,dfL x)=false:=Bool.eq_false_iff.2 fun h=>hd (Qk8 h h2.perm)
  have e2:gdB (unV x)=false:=Bool.eq_false_iff.2 fun h=>hd (Qk8 h Q49)
  exact ⟨by rw [e1,e2],fun h=>by rw [e2] at h;simp at h⟩
theorem Qnj {d:Nat} {l:List Cl8} {b:Bool} (hl:l.length≤1000000):Ok (g97 (d+25) l b) fun r=>Stb kyC l r:=by
 rw [e97]
 exact Ok.bind (Qoe hl) fun r hr=>Ok.some hr
theorem Qk9 {d:Nat} {x:Ld} (hl:x.2.1.length≤1000) (hf:x.2.2.2.2.2.2.1.length≤1000):Ok (g51 (d+26) x) fun c=>c.1=x.1∧Stb kyC x.2.1 c.2.1∧c.2.2.1=x.2.2.2.2.2.2.1∧c.2.2.2=dfL x:=by
 rw [e51,Qrh hl,Q9,Qko hf,Q9]
 unfold j51_0 dfL
 by_cases h0:x.2.2.2.2.2.2.2.2≥0
 ·rw [Z5 h0,Q4]
  by_cases h1:x.2.2.2.2.2.2.2.2 < ((x.2.1.length:Nat):Int)
  ·rw [Z5 h1,Q4,Q4,Q4o h0 h1,Q9,if_pos ⟨h0,h1⟩]
   exact Ok.bind (Qnj (by omega)) fun r hr=>Ok.some ⟨rfl,hr,rfl,rfl⟩
  ·rw [Z4 h1,Q5,if_neg (fun h=>h1 h.2)]
   exact Ok.bind (Qnj (by omega)) fun r hr=>Ok.some ⟨rfl,hr,rfl,rfl⟩
 ·rw [Z4 h0,Q5,Q5,if_neg (fun h=>h0 h.1)]
  exact Ok.bind (Qnj (by omega)) fun r hr=>Ok.some ⟨rfl,hr,rfl,rfl⟩
theorem Qu8 {d:Nat} {l:List Cl8} {x:Cl8} (hl:l.length≤10000):g104 (d+1) l x=some (Qk7 l x):=by
 rw [e104]
 have fin:j104_0 d l x (((l.takeWhile fun y=>decide (y.1 < x.1)).length:Nat):Int)=some (Qk7 l x):=by
  have hle:(l.takeWhile fun y=>decide (y.1 < x.1)).length≤l.length:=by
   have:=congrArg List.length (List.takeWhile_append_dropWhile (p:=fun y:Cl8=>decide (y.1 < x.1)) (l:=l))
   rw [Zf] at this;omega
  have ht:l.take (l.takeWhile fun y=>decide (y.1 < x.1)).length=l.takeWhile fun y=>decide (y.1 < x.1):=by
   conv=>lhs;arg 2;rw [← List.takeWhile_append_dropWhile (p:=fun y:Cl8=>decide (y.1 < x.1)) (l:=l)]
   rw [List.take_left]
  have hd:l.drop (l.takeWhile fun y=>decide (y.1 < x.1)).length=l.dropWhile fun y=>decide (y.1 < x.1):=by
   conv=>lhs;arg 2;rw [← List.takeWhile_append_dropWhile (p:=fun y:Cl8=>decide (y.1 < x.1)) (l:=l)]
   rw [List.drop_left]
  unfold j104_0
  simp only [nn,Q3,Q4]
  rw [Qnq hle,Q4,Q4,room (by simp;omega),Q4,room (by simp;omega),Q4,room (by simp;omega),Q4,ht,hd]
  unfold Qk7
  simp
 have key:∀ (B A:List Cl8) (fuel:Nat),l=A++B→(∀ y∈A,y.1 < x.1)→B.length < fuel→Qa (l104_0 d l x (j104_0 d l x)) fuel ((A.length:Nat):Int)=some (Qk7 l x):=by
  intro B
  induction B with
  | nil =>
   intro A fuel e hA hf
   obtain ⟨g,rfl⟩:∃ g,fuel=g+1:=⟨fuel - 1,by omega⟩
   rw [List.append_nil] at e
   have ht:(l.takeWhile fun y=>decide (y.1 < x.1))=A:=by rw [e];exact Qsv (fun y hy=>by simpa using hA y hy)
   simp only [Qa,l104_0]
   rw [show (l.length:Int)=((A.length:Nat):Int) by rw [e],ltn,Q5]
   rw [ht] at fin;exact fin
  | cons z B ih =>
   intro A fuel e hA hf
   obtain ⟨g,rfl⟩:∃ g,fuel=g+1:=⟨fuel - 1,by omega⟩
   have hlt:A.length < l.length:=by rw [e];simp
   have hg:l[A.length]? = some z:=by rw [e];simp
   simp only [Qa,l104_0]
   rw [Z5 (show ((A.length:Nat):Int) < ((l.length:Nat):Int) by omega),Q4,nn,Q4,Q3,hg,Q9]
   by_cases hz:z.1 < x.1
   ·rw [Z5 hz,Q4,wr1 (by omega)]
    have:=ih (A++[z]) g (by rw [e];simp) (fun y hy=>by
     rcases List.mem_append.1 hy with h | h
     ·exact hA y h
     ·simp at h;subst h;exact hz) (by simpa using hf)
    rw [Zf] at this
    exact this
   ·rw [Z4 hz,Q5]
    have ht:(l.takeWhile fun y=>decide (y.1 < x.1))=A:=by
     rw [e,List.takeWhile_append_of_pos (fun y hy=>by simpa using hA y hy),List.takeWhile_cons,if_neg (by simpa using hz),List.append_nil]
    rw [ht] at fin;exact fin
 exact key l [] Qf rfl (by simp) (by rw [Q6];omega)
theorem Qka {d:Nat} {x:Ld} (hl:x.2.1.length≤1000) (hf:x.2.2.2.2.2.2.1.length≤1000):g57 (d+2) x=some (unV x):=by
 rw [e57,room (by simp;omega),Q4,List.nil_append]
 refine (Qc (fun (t:List Cl8) (i:Int)=>(i,((x.1,t,x.2.2.2.2.2.2.1,0):Cf))) x.2.1 (fun y _ t k=>Q1 (g104 (d+1) t y) fun r=>k r) (fun t=>j57_0 (d+1) x x.1 0 t x.2.2.2.2.2.2.1) ?_ ?_ (by rw [Q6];omega) []).trans ?_
 ·intro ag t i y hx
  have hi:=(Z0 hx).1
  simp only [l57_0,ltl hx,nn,Q3,hx,Q9,Q4]
  rw [wr1 (by omega)]
 ·intro ag t;simp only [l57_0,ltn,Q5]
 ·rw [Q5g (f:=fun y _ t=>Qk7 t y) (fun k t=>t.length=k) x.2.1 0 [] rfl (fun j y t k hy ht=>by
   have hj:=(Z0 hy).1
   rw [Qu8 (by omega),Q9]
   exact ⟨rfl,by rw [Qql];omega⟩)]
  unfold j57_0
  rw [Q56,Q9]
  show _=some (x.1,Qw4 x.2.1,x.2.2.2.2.2.2.1,dfL x)
  unfold dfL
  rw [wr (by omega) (by omega)]
  by_cases h:0≤x.2.2.2.2.2.2.2.2∧x.2.2.2.2.2.2.2.2 < ((x.2.1.length:Nat):Int)
  ·rw [if_pos h,Z5 (show 0≤x.2.2.2.2.2.2.2.2∧x.2.2.2.2.2.2.2.2≤((x.2.1.length:Nat):Int) - 1 by omega),Q4,Z5 h.1,Q4,Q4o h.1 h.2,Q9]
   rfl
  ·rw [if_neg h,Z4 (show ¬ (0≤x.2.2.2.2.2.2.2.2∧x.2.2.2.2.2.2.2.2≤((x.2.1.length:Nat):Int) - 1) by omega),Q5]
   rfl
theorem Q63 {α:Type} [DecidableEq α]:∀ {a b:List α} {i:Nat} {c:List α},i=c.length→a.length=b.length→Q4a (fun x j=>decide ((c++b)[j]? = some x)) a i=decide (a=b)
 | [],[],i,c,_,_=>by simp [Q4a]
 | x::a,y::b,i,c,hi,h=>by
  subst hi
  have h1:(c++y::b)[c.length]? = some y:=by simp
  have ih:=Q63 (a:=a) (b:=b) (i:=c.length+1) (c:=c++[y]) (by simp) (by simpa using h)
  rw [show c++[y]++b=c++y::b by simp] at ih
  simp only [Q4a]
  rw [ih,h1]
  by_cases hxy:x=y
  ·subst hxy;simp
  ·rw [Z4 (show ¬ some y=some x by simp;exact fun e=>hxy e.symm),Bool.false_and,Z4 (by simp [hxy])]
 | [],_::_,_,_,_,h=>by simp at h
 | _::_,[],_,_,_,h=>by simp at h
theorem Qnk {d:Nat} {a b:List Int} (hl:a.length < 4000000):g124 (d+1) a b=some (decide (a=b)):=by
 rw [e124]
 by_cases h:a.length=b.length
 case neg=>rw [show ((((a.length:Nat):Int)) != ((b.length:Nat):Int))=true by simp;omega,Q4,Z4 (fun e=>h (by rw [e]))]
 rw [show ((((a.length:Nat):Int)) != ((b.length:Nat):Int))=false by simp;omega,Q5]
 refine (Qc (fun (t:Bool) (i:Int)=>(t,i)) a (fun x i t k=>oif (decide (([]++b)[i]? = some x)) (k t) (some false)) (fun _=>some true) ?_ ?_ (by rw [Q6];omega) false).trans ?_
 ·intro ag t i x hx;have hi:=(Z0 hx).1;simp only [l124_0,ltl hx,nn,Q3,hx,Q9,Q4];rw [wr1 (by omega)]
  have hb:i < b.length:=by omega
  rw [List.nil_append,Z6 hb,Q9]
  by_cases hxy:x=b[i]
  ·rw [show (x != b[i])=false by simp [hxy],Q5,Z5 (by rw [hxy]),Q4]
  ·rw [show (x != b[i])=true by simp [hxy],Q4,Z4 (show ¬ some b[i]=some x by simp;exact fun e=>hxy e.symm),Q5]
 ·intro ag t;simp only [l124_0,ltn,Q5];rfl
 ·rw [Q03,Q63 (i:=0) (c:=[]) rfl h];cases decide (a=b)<;>rfl
theorem Q7j {d:Nat} {a b:List Int} (hl:a.length < 4000000):g177 (d+1) a b=some (decide (a=b)):=by
 rw [e177]
 by_cases h:a.length=b.length
 case neg=>rw [show ((((a.length:Nat):Int)) != ((b.length:Nat):Int))=true by simp;omega,Q4,Z4 (fun e=>h (by rw [e]))]
 rw [show ((((a.length:Nat):Int)) != ((b.length:Nat):Int))=false by simp;omega,Q5]
 refine (Qc (fun (t:Bool) (i:Int)=>(t,i)) a (fun x i t k=>oif (decide (([]++b)[i]? = some x)) (k t) (some false)) (fun _=>some true) ?_ ?_ (by rw [Q6];omega) false).trans ?_
 ·intro ag t i x hx;have hi:=(Z0 hx).1;simp only [l177_0,ltl hx,nn,Q3,hx,Q9,Q4];rw [wr1 (by omega)]
  have hb:i < b.length:=by omega
  rw [List.nil_append,Z6 hb,Q9]
  by_cases hxy:x=b[i]
  ·rw [show (x != b[i])=false by simp [hxy],Q5,Z5 (by rw [hxy]),Q4]
  ·rw [show (x != b[i])=true by simp [hxy],Q4,Z4 (show ¬ some b[i]=some x by simp;exact fun e=>hxy e.symm),Q5]
 ·intro ag t;simp only [l177_0,ltn,Q5];rfl
 ·rw [Q03,Q63 (i:=0) (c:=[]) rfl h];cases decide (a=b)<;>rfl
theorem Qsw {x y:Cl8}:((x.1==y.1)&&((x.2.1==y.2.1)&&((x.2.2.1==y.2.2.1)&&((x.2.2.2.1==y.2.2.2.1)&&((x.2.2.2.2.1==y.2.2.2.2.1)&&((x.2.2.2.2.2.1==y.2.2.2.2.2.1)&&((x.2.2.2.2.2.2.1==y.2.2.2.2.2.2.1)&&((x.2.2.2.2.2.2.2==y.2.2.2.2.2.2.2)&&true))))))))=decide (x=y):=by
 obtain ⟨x1,x2,x3,x4,x5,x6,x7,x8⟩:=x
 obtain ⟨y1,y2,y3,y4,y5,y6,y7,y8⟩:=y
 rw [Bool.eq_iff_iff];simp
theorem Qwx {x y:Fl5}:((x.1==y.1)&&((x.2.1==y.2.1)&&((x.2.2.1==y.2.2.1)&&((x.2.2.2.1==y.2.2.2.1)&&((x.2.2.2.2==y.2.2.2.2)&&true)))))=decide (x=y):=by
 obtain ⟨x1,x2,x3,x4,x5⟩:=x
 obtain ⟨y1,y2,y3,y4,y5⟩:=y
 rw [Bool.eq_iff_iff];simp
theorem Qzh {d:Nat} {a b:List Cl8} (hl:a.length < 4000000):g123 (d+1) a b=some (decide (a=b)):=by
 rw [e123]
 by_cases h:a.length=b.length
 case neg=>rw [show ((((a.length:Nat):Int)) != ((b.length:Nat):Int))=true by simp;omega,Q4,Z4 (fun e=>h (by rw [e]))]
 rw [show ((((a.length:Nat):Int)) != ((b.length:Nat):Int))=false by simp;omega,Q5]
 refine (Qc (fun (t:Bool) (i:Int)=>(t,i)) a (fun x i t k=>oif (decide (([]++b)[i]? = some x)) (k t) (some false)) (fun _=>some true) ?_ ?_ (by rw [Q6];omega) false).trans ?_
 ·intro ag t i x hx;have hi:=(Z0 hx).1;simp only [l123_0,ltl hx,nn,Q3,hx,Q9,Q4];rw [wr1 (by omega)]
  have hb:i < b.length:=by omega
  rw [List.nil_append,Z6 hb,Q9,Qsw]
  by_cases hxy:x=b[i]
  ·rw [Z5 hxy,Zl,Q5,Z5 (by rw [hxy]),Q4]
  ·rw [Z4 hxy,Bool.not_false,Q4,Z4 (show ¬ some b[i]=some x by simp;exact fun e=>hxy e.symm),Q5]
 ·intro ag t;simp only [l123_0,ltn,Q5];rfl
 ·rw [Q03,Q63 (i:=0) (c:=[]) rfl h];cases decide (a=b)<;>rfl
def smB (x y:Ld):Bool:=decide (x.2.1=y.2.1)&&(decide (x.2.2.1=y.2.2.1)&&(decide (x.2.2.2.1=y.2.2.2.1)&&(decide (x.2.2.2.2.1=y.2.2.2.2.1)&&(decide (x.2.2.2.2.2.1=y.2.2.2.2.2.1)&&(decide (x.2.2.2.2.2.2.2.1=y.2.2.2.2.2.2.2.1)&&(x.2.2.2.2.2.2.2.2==y.2.2.2.2.2.2.2.2))))))
def lgB (x:Ld):Bool:=decide (x.2.1.length≤24∧x.2.2.2.2.2.2.1.length≤16)&&(gdB (unV x)&&smB x (ldV (unV x)))
def Qqo (x:Ld):Prop:=x.1.size < 4000000∧x.2.1.length < 4000000∧x.2.2.1.length < 4000000∧x.2.2.2.1.length < 4000000∧x.2.2.2.2.1.length < 4000000∧x.2.2.2.2.2.1.length < 4000000∧x.2.2.2.2.2.2.1.length < 4000000∧x.2.2.2.2.2.2.2.1.length < 4000000
theorem Qlm {d:Nat} {x:Ld} (h:Qqo x):g80 (d+27) x=some (lgB x):=by
 obtain ⟨z1,z2,z3,z4,z5,z6,z7,z8⟩:=h
 rw [e80]
 unfold j80_0 lgB
 by_cases h1:x.2.1.length≤24
 case neg=>rw [Z5 (show ((x.2.1.length:Nat):Int) > 24 by omega),Q4,Q4,Z4 (fun h=>h1 h.1)];rfl
 rw [Z4 (show ¬ ((x.2.1.length:Nat):Int) > 24 by omega),Q5]
 by_cases h2:x.2.2.2.2.2.2.1.length≤16
 case neg=>rw [Z5 (show ((x.2.2.2.2.2.2.1.length:Nat):Int) > 16 by omega),Q4,Z4 (fun h=>h2 h.2)];rfl
 rw [Z4 (show ¬ ((x.2.2.2.2.2.2.1.length:Nat):Int) > 16 by omega),Q5,Z5 ⟨h1,h2⟩,Zg]
 obtain ⟨c,hc,c1,c2,c3,c4⟩:=Qk9 (d:=d) (x:=x) (by omega) (by omega)
 obtain ⟨u1,u2⟩:=Qww c1 c2 c3 c4
 have hcl:=c2.len
 rw [hc,Q9,show d+26=(d+18)+8 by omega,Qm8 (by omega) (by rw [c3];omega),Q9,u1]
 cases hg:gdB (unV x) with
 | false=>rfl
 | true =>
  have e:=u2 hg
  subst e
  rw [Zl,Q5,show d+18+8=(d+12)+14 by omega,Qgt (Qo2 hg),Q9,Zg]
  unfold smB
  rw [show d+12+14=(d+25)+1 by omega,Qzh (by omega),Q9]
  cases decide (x.2.1=(ldV (unV x)).2.1) with
  | false=>rfl
  | true =>
  rw [Q4,Qnk (by omega),Q9]
  cases decide (x.2.2.1=(ldV (unV x)).2.2.1) with
  | false=>rfl
  | true =>
  rw [Q4,Qnk (by omega),Q9]
  cases decide (x.2.2.2.1=(ldV (unV x)).2.2.2.1) with
  | false=>rfl
  | true =>
  rw [Q4,Qnk (by omega),Q9]
  cases decide (x.2.2.2.2.1=(ldV (unV x)).2.2.2.2.1) with
  | false=>rfl
  | true =>
  rw [Q4,Qnk (by omega),Q9]
  cases decide (x.2.2.2.2.2.1=(ldV (unV x)).2.2.2.2.2.1) with
  | false=>rfl
  | true =>
  rw [Q4,Qnk (by omega),Q9]
  cases decide (x.2.2.2.2.2.2.2.1=(ldV (unV x)).2.2.2.2.2.2.2.1) with
  | false=>rfl
  | true=>rw [Q4];rfl
theorem Qqp {d:Nat} {u y:Ld} (h:Qqo u) (hn:u.1=y.1) (hf:u.2.2.2.2.2.2.1=y.2.2.2.2.2.2.1):g158 (d+2) u y=some (smB u y):=by
 obtain ⟨z1,z2,z3,z4,z5,z6,z7,z8⟩:=h
 rw [e158,Qr5,Z5 (by rw [hn]),Zl,Q5]
 unfold j158_2 smB
 by_cases hc:u.2.1.length=y.2.1.length
 case neg=>rw [show ((((u.2.1.length:Nat):Int)) != ((y.2.1.length:Nat):Int))=true by simp;omega,Q4,Q4,Z4 (fun e=>hc (by rw [e]))];rfl
 rw [show ((((u.2.1.length:Nat):Int)) != ((y.2.1.length:Nat):Int))=false by simp;omega,Q5,show ((((u.2.2.2.2.2.2.1.length:Nat):Int)) != ((y.2.2.2.2.2.2.1.length:Nat):Int))=false by rw [hf];simp,Q5]
 by_cases hd:u.2.2.2.2.2.2.2.2=y.2.2.2.2.2.2.2.2
 case neg=>rw [show (u.2.2.2.2.2.2.2.2 != y.2.2.2.2.2.2.2.2)=true by simp [hd],Q4,show (u.2.2.2.2.2.2.2.2==y.2.2.2.2.2.2.2.2)=false by simp [hd]];simp
 rw [show (u.2.2.2.2.2.2.2.2 != y.2.2.2.2.2.2.2.2)=false by simp [hd],Q5,show (u.2.2.2.2.2.2.2.2==y.2.2.2.2.2.2.2.2)=true by simp [hd],Bool.and_true]
 refine (Qc (fun (t:Bool) (i:Int)=>(t,i)) u.2.1 (fun z i t k=>oif (decide (([]++y.2.1)[i]? = some z)) (k t) (some false)) (fun t=>j158_1 (d+1) u y t) ?_ ?_ (by rw [Q6];omega) false).trans ?_
 ·intro ag t i x hx;have hi:=(Z0 hx).1;simp only [l158_0,ltl hx,nn,Q3,hx,Q9,Q4];rw [wr1 (by omega)]
  have hb:i < y.2.1.length:=by omega
  rw [List.nil_append,Z6 hb,Q9,Qsw]
  by_cases hxy:x=y.2.1[i]
  ·rw [Z5 hxy,Zl,Q5,Z5 (by rw [hxy]),Q4]
  ·rw [Z4 hxy,Bool.not_false,Q4,Z4 (show ¬ some y.2.1[i]=some x by simp;exact fun e=>hxy e.symm),Q5]
 ·intro ag t;simp only [l158_0,ltn,Q5]
 ·rw [Q03,Q63 (i:=0) (c:=[]) rfl hc]
  cases decide (u.2.1=y.2.1) with
  | false=>rfl
  | true =>
  rw [Q4,Zg]
  unfold j158_1
  have hfl:u.2.2.2.2.2.2.1.length=y.2.2.2.2.2.2.1.length:=by rw [hf]
  refine (Qc (fun (t:Bool) (i:Int)=>(t,i)) u.2.2.2.2.2.2.1 (fun z i t k=>oif (decide (([]++y.2.2.2.2.2.2.1)[i]? = some z)) (k t) (some false)) (fun t=>j158_0 (d+1) u y t) ?_ ?_ (by rw [Q6];omega) false).trans ?_
  ·intro ag t i x hx;have hi:=(Z0 hx).1;simp only [l158_1,ltl hx,nn,Q3,hx,Q9,Q4];rw [wr1 (by omega)]
   have hb:i < y.2.2.2.2.2.2.1.length:=by omega
   rw [List.nil_append,Z6 hb,Q9,Qwx]
   by_cases hxy:x=y.2.2.2.2.2.2.1[i]
   ·rw [Z5 hxy,Zl,Q5,Z5 (by rw [hxy]),Q4]
   ·rw [Z4 hxy,Bool.not_false,Q4,Z4 (show ¬ some y.2.2.2.2.2.2.1[i]=some x by simp;exact fun e=>hxy e.symm),Q5]
  ·intro ag t;simp only [l158_1,ltn,Q5]
  ·rw [Q03,Q63 (i:=0) (c:=[]) rfl hfl,Z5 hf,Q4]
   unfold j158_0
   rw [Q7j (by omega),Q9]
   cases decide (u.2.2.1=y.2.2.1) with
   | false=>rfl
   | true =>
   rw [Q4,Q7j (by omega),Q9]
   cases decide (u.2.2.2.1=y.2.2.2.1) with
   | false=>rfl
   | true =>
   rw [Q4,Q7j (by omega),Q9]
   cases decide (u.2.2.2.2.1=y.2.2.2.2.1) with
   | false=>rfl
   | true =>
   rw [Q4,Q7j (by omega),Q9]
   cases decide (u.2.2.2.2.2.1=y.2.2.2.2.2.1) with
   | false=>rfl
   | true=>rw [Q4,Q7j (by omega),Q9];rfl
theorem Qqq {d:Nat} {x:Ld} (h:Qqo x):g118 (d+11) x=some (lgB x):=by
 have h':=h
 obtain ⟨z1,z2,z3,z4,z5,z6,z7,z8⟩:=h
 rw [e118]
 unfold j118_0 lgB
 by_cases h1:x.2.1.length≤24
 case neg=>rw [Z5 (show ((x.2.1.length:Nat):Int) > 24 by omega),Q4,Q4,Z4 (fun h=>h1 h.1)];rfl
 rw [Z4 (show ¬ ((x.2.1.length:Nat):Int) > 24 by omega),Q5]
 by_cases h2:x.2.2.2.2.2.2.1.length≤16
 case neg=>rw [Z5 (show ((x.2.2.2.2.2.2.1.length:Nat):Int) > 16 by omega),Q4,Z4 (fun h=>h2 h.2)];rfl
 rw [Z4 (show ¬ ((x.2.2.2.2.2.2.1.length:Nat):Int) > 16 by omega),Q5,Z5 ⟨h1,h2⟩,Zg]
 rw [show d+10=(d+8)+2 by omega,Qka (by omega) (by omega),Q9,show d+8+2=(d+5)+5 by omega,Qre (c:=unV x) z1 (show x.2.2.2.2.2.2.1.length < 4000000 by omega),Q9]
 cases hg:gdB (unV x) with
 | false=>rfl
 | true=>rw [Q4,show d+5+5=d+10 by omega,Qrg (Qo2 hg),Q9,show d+10=(d+8)+2 by omega,Qqp (y:=ldV (unV x)) h' rfl rfl,Q9,Zg]
theorem Q7k {α:Type} {l:List α} {z x:α} {k:Nat} (hx:l[k]? = some x):(l.take k++List.replicate (l.length - k) z).set k x=l.take (k+1)++List.replicate (l.length - (k+1)) z:=by
 have hk:=(Z0 hx).1
 have e:=(Z0 hx).2
 have hl:(l.take k).length=k:=by rw [List.length_take];omega
 rw [List.set_append_right _ _ (by omega),hl,Nat.sub_self,show l.length - k=(l.length - (k+1))+1 by omega,List.replicate_succ,List.set_cons_zero,List.take_succ_eq_append_getElem hk,e]
 simp
theorem Qln {d:Nat} {l:List Cl8} (hl:l.length≤1048576):g48 (d+2) l=some l:=by
 rw [e48,nn,Q4,Q4,Q3,show (Nat.ble l.length l.length&&Nat.ble (l.length*64) Q7)=true by rw [Z8,Nat.ble_eq,Nat.ble_eq];unfold Q7;omega,Q4]
 refine Ok.val (Q0q (fun j (s:Int×List Cl8)=>∃ k:Nat,k+j=l.length∧s.1=(k:Int)∧s.2=l.take k++List.replicate (l.length - k) ((0,0,0,0,0,0,0,0):Cl8)) ?_ _ l.length _ (by rw [Q6];omega) ⟨0,by omega,rfl,by simp⟩)
 rintro j ⟨n,r⟩ ag ⟨k,hk,h1,h2⟩ hag
 simp only at h1 h2
 subst h1
 have hrl:r.length=l.length:=by rw [h2];simp;omega
 simp only [l48_0]
 rcases Nat.lt_or_ge k l.length with hlt | hge
 ·have hx:=Z6 hlt
  rw [ltl hx,Q4,nn,Q4,Q3,hx,Q9,e92,Q9,Q4,Q02 (by omega),Q4,Z6 (by omega),Q9,wr1 (by omega)]
  exact hag (j - 1) _ (by omega) ⟨k+1,by omega,rfl,by rw [h2];exact Q7k hx⟩
 ·have:k=l.length:=by omega
  subst this
  rw [ltn,Q5]
  unfold j48_0
  exact Ok.some (by rw [h2];simp)
theorem Qip {d:Nat} {l:List Fl5} (hl:l.length≤1048576):g49 (d+2) l=some l:=by
 rw [e49,nn,Q4,Q4,Q3,show (Nat.ble l.length l.length&&Nat.ble (l.length*40) Q7)=true by rw [Z8,Nat.ble_eq,Nat.ble_eq];unfold Q7;omega,Q4]
 refine Ok.val (Q0q (fun j (s:Int×List Fl5)=>∃ k:Nat,k+j=l.length∧s.1=(k:Int)∧s.2=l.take k++List.replicate (l.length - k) ((0,0,0,0,0):Fl5)) ?_ _ l.length _ (by rw [Q6];omega) ⟨0,by omega,rfl,by simp⟩)
 rintro j ⟨n,r⟩ ag ⟨k,hk,h1,h2⟩ hag
 simp only at h1 h2
 subst h1
 have hrl:r.length=l.length:=by rw [h2];simp;omega
 simp only [l49_0]
 rcases Nat.lt_or_ge k l.length with hlt | hge
 ·have hx:=Z6 hlt
  rw [ltl hx,Q4,nn,Q4,Q3,hx,Q9,e93,Q9,Q4,Q02 (by omega),Q4,Z6 (by omega),Q9,wr1 (by omega)]
  exact hag (j - 1) _ (by omega) ⟨k+1,by omega,rfl,by rw [h2];exact Q7k hx⟩
 ·have:k=l.length:=by omega
  subst this
  rw [ltn,Q5]
  unfold j49_0
  exact Ok.some (by rw [h2];simp)
theorem Q4k {d:Nat} {l:List Int} (hl:l.length≤1048576):g78 (d+1) l=some l:=by
 rw [e78,nn,Q4,Q4,Q3,show (Nat.ble l.length l.length&&Nat.ble (l.length*8) Q7)=true by rw [Z8,Nat.ble_eq,Nat.ble_eq];unfold Q7;omega,Q4]
 refine Ok.val (Q0q (fun j (s:Int×List Int)=>∃ k:Nat,k+j=l.length∧s.1=(k:Int)∧s.2=l.take k++List.replicate (l.length - k) (0:Int)) ?_ _ l.length _ (by rw [Q6];omega) ⟨0,by omega,rfl,by simp⟩)
 rintro j ⟨n,r⟩ ag ⟨k,hk,h1,h2⟩ hag
 simp only at h1 h2
 subst h1
 have hrl:r.length=l.length:=by rw [h2];simp;omega
 simp only [l78_0]
 rcases Nat.lt_or_ge k l.length with hlt | hge
 ·have hx:=Z6 hlt
  rw [ltl hx,Q4,nn,Q4,Q3,hx,Q9,Q4,Q02 (by omega),Q4,Z6 (by omega),Q9,wr1 (by omega)]
  exact hag (j - 1) _ (by omega) ⟨k+1,by omega,rfl,by rw [h2];exact Q7k hx⟩
 ·have:k=l.length:=by omega
  subst this
  rw [ltn,Q5]
  unfold j78_0
  exact Ok.some (by rw [h2];simp)
def szQ (n:Int) (k:Nat) (r:Int):Prop:=r < 0∨(0≤r∧r≤n∧(k:Int)≤n)
theorem Qlo {d:Nat} {l:List Cl8} {n:Int} (h0:0≤n) (h1:n≤1048576) (hl:l.length≤9223372036854775807):Ok (g44 (d+1) l n) fun r=>szQ n l.length r:=by
 rw [e44,wr (by omega) (by omega)]
 by_cases h:n - ((l.length:Nat):Int) < 0
 ·rw [Z5 h,Q4];exact Ok.some (Or.inl (by omega))
 ·rw [Z4 h,Q5];exact Ok.some (Or.inr ⟨by omega,by omega,by omega⟩)
theorem Qiq {d:Nat} {l:List Fl5} {n:Int} (h0:0≤n) (h1:n≤1048576) (hl:l.length≤9223372036854775807):Ok (g45 (d+1) l n) fun r=>szQ n l.length r:=by
 rw [e45,wr (by omega) (by omega)]
 by_cases h:n - ((l.length:Nat):Int) < 0
 ·rw [Z5 h,Q4];exact Ok.some (Or.inl (by omega))
 ·rw [Z4 h,Q5];exact Ok.some (Or.inr ⟨by omega,by omega,by omega⟩)
theorem Q4l {d:Nat} {l:List Int} {n:Int} (h0:0≤n) (h1:n≤1048576) (hl:l.length≤9223372036854775807):Ok (g71 (d+1) l n) fun r=>szQ n l.length r:=by
 rw [e71,wr (by omega) (by omega)]
 by_cases h:n - ((l.length:Nat):Int) < 0
 ·rw [Z5 h,Q4];exact Ok.some (Or.inl (by omega))
 ·rw [Z4 h,Q5];exact Ok.some (Or.inr ⟨by omega,by omega,by omega⟩)
theorem Qck {d:Nat} {l:List Cl8} (hl:l.length≤2000000):g53 (d+2) l l=some true:=by
 rw [e53,bne_self_eq_false,Q5]
 refine (Qc (fun (t:Bool) (i:Int)=>(t,i)) l (fun x i t k=>k t) (j53_0 (d+1)) ?_ ?_ (by rw [Q6];omega) false).trans ?_
 ·intro ag t i x hx;have hi:=(Z0 hx).1;simp only [l53_0,ltl hx,nn,Q3,hx,Q9,Q4]
  rw [e102]
  simp only [bne_self_eq_false,Q5,Zl,Q9]
  rw [wr1 (by omega)]
 ·intro ag t;simp only [l53_0,ltn,Q5]
 ·rw [Q0r (f:=fun _ _ t=>t)];rfl
theorem Qaj {d:Nat} {l:List Fl5} (hl:l.length≤2000000):g54 (d+2) l l=some true:=by
 rw [e54,bne_self_eq_false,Q5]
 refine (Qc (fun (t:Bool) (i:Int)=>(t,i)) l (fun x i t k=>k t) (j54_0 (d+1)) ?_ ?_ (by rw [Q6];omega) false).trans ?_
 ·intro ag t i x hx;have hi:=(Z0 hx).1;simp only [l54_0,ltl hx,nn,Q3,hx,Q9,Q4]
  rw [e103]
  simp only [bne_self_eq_false,Q5,Zl,Q9]
  rw [wr1 (by omega)]
 ·intro ag t;simp only [l54_0,ltn,Q5]
 ·rw [Q0r (f:=fun _ _ t=>t)];rfl
theorem Q4m {d:Nat} {l:List Int} (hl:l.length≤2000000):g11 (d+1) l l=some true:=by
 rw [e11,bne_self_eq_false,Q5]
 refine (Qc (fun (t:Bool) (i:Int)=>(t,i)) l (fun x i t k=>k t) (j11_0 d) ?_ ?_ (by rw [Q6];omega) false).trans ?_
 ·intro ag t i x hx;have hi:=(Z0 hx).1;simp only [l11_0,ltl hx,nn,Q3,hx,Q9,Q4]
  simp only [bne_self_eq_false,Q5]
  rw [wr1 (by omega)]
 ·intro ag t;simp only [l11_0,ltn,Q5]
 ·rw [Q0r (f:=fun _ _ t=>t)];rfl
theorem Qlp {d:Nat} {c:Cf} (h1:c.2.1.length≤2000000) (h2:c.2.2.1.length≤2000000):g20 (d+3) c c=some true:=by
 rw [e20,beq_self_eq_true,Zl,Q5,Qck h1,Q9,Zl,Q5,Qaj h2,Q9,Zl,Q5,bne_self_eq_false,Q5]
def ldL (x:Ld):Prop:=x.1.size≤1048576∧x.2.1.length≤1048576∧x.2.2.1.length≤1048576∧x.2.2.2.1.length≤1048576∧x.2.2.2.2.1.length≤1048576∧x.2.2.2.2.2.1.length≤1048576∧x.2.2.2.2.2.2.1.length≤1048576∧x.2.2.2.2.2.2.2.1.length≤1048576
theorem Qlq {d:Nat} {x:Ld} (h:ldL x):g38 (d+3) x x=some true:=by
 obtain ⟨z1,z2,z3,z4,z5,z6,z7,z8⟩:=h
 rw [e38,beq_self_eq_true,Zl,Q5,Qck (by omega),Q9,Zl,Q5,Q4m (by omega),Q9,Zl,Q5,Q4m (by omega),Q9,Zl,Q5,Q4m (by omega),Q9,Zl,Q5,Q4m (by omega),Q9,Zl,Q5,Qaj (by omega),Q9,Zl,Q5,Q4m (by omega),Q9,Zl,Q5,bne_self_eq_false,Q5]
theorem Qlr {d:Nat} {x:Ld} (h:ldL x):g34 (d+3) x=some x:=by
 obtain ⟨z1,z2,z3,z4,z5,z6,z7,z8⟩:=h
 rw [e34,Qln z2,Q9,Q4k z3,Q9,Q4k z4,Q9,Q4k z5,Q9,Q4k z6,Q9,Qip z7,Q9,Q4k z8,Q9]
def ldW (x:Ld):Prop:=x.1.size≤9223372036854775807∧x.2.1.length≤9223372036854775807∧x.2.2.1.length≤9223372036854775807∧x.2.2.2.1.length≤9223372036854775807∧x.2.2.2.2.1.length≤9223372036854775807∧x.2.2.2.2.2.1.length≤9223372036854775807∧x.2.2.2.2.2.2.1.length≤9223372036854775807∧x.2.2.2.2.2.2.2.1.length≤9223372036854775807
theorem Qls {d:Nat} {x:Ld} {n:Int} (h0:0≤n) (h1:n≤1048576) (h:ldW x):Ok (g30 (d+2) x n) fun r=>r < 0∨(0≤r∧r≤n∧ldL x):=by
 obtain ⟨z1,z2,z3,z4,z5,z6,z7,z8⟩:=h
 have no:Ok (some (-1:Int)) fun r=>r < 0∨(0≤r∧r≤n∧ldL x):=Ok.some (Or.inl (by omega))
 rw [e30,wr (by omega) (by omega)]
 refine Ok.oif (fun _=>no) (fun hs=>?_)
 simp only [decide_eq_false_iff_not] at hs
 refine Ok.bind (Qlo (by omega) (by omega) z2) fun r3 g3=>?_
 refine Ok.oif (fun _=>no) (fun hs3=>?_)
 simp only [decide_eq_false_iff_not] at hs3
 have g3:=g3.resolve_left hs3
 refine Ok.bind (Q4l (by omega) (by omega) z3) fun r4 g4=>?_
 refine Ok.oif (fun _=>no) (fun hs4=>?_)
 simp only [decide_eq_false_iff_not] at hs4
 have g4:=g4.resolve_left hs4
 refine Ok.bind (Q4l (by omega) (by omega) z4) fun r5 g5=>?_
 refine Ok.oif (fun _=>no) (fun hs5=>?_)
 simp only [decide_eq_false_iff_not] at hs5
 have g5:=g5.resolve_left hs5
 refine Ok.bind (Q4l (by omega) (by omega) z5) fun r6 g6=>?_
 refine Ok.oif (fun _=>no) (fun hs6=>?_)
 simp only [decide_eq_false_iff_not] at hs6
 have g6:=g6.resolve_left hs6
 refine Ok.bind (Q4l (by omega) (by omega) z6) fun r7 g7=>?_
 refine Ok.oif (fun _=>no) (fun hs7=>?_)
 simp only [decide_eq_false_iff_not] at hs7
 have g7:=g7.resolve_left hs7
 refine Ok.bind (Qiq (by omega) (by omega) z7) fun r8 g8=>?_
 refine Ok.oif (fun _=>no) (fun hs8=>?_)
 simp only [decide_eq_false_iff_not] at hs8
 have g8:=g8.resolve_left hs8
 refine Ok.bind (Q4l (by omega) (by omega) z8) fun r9 g9=>?_
 refine Ok.oif (fun _=>no) (fun hs9=>?_)
 simp only [decide_eq_false_iff_not] at hs9
 have g9:=g9.resolve_left hs9
 exact Ok.some (Or.inr ⟨by omega,by omega,by omega,by omega,by omega,by omega,by omega,by omega,by omega,by omega⟩)
theorem ldL.sz {x:Ld} (h:ldL x):Qqo x:=by
 obtain ⟨z1,z2,z3,z4,z5,z6,z7,z8⟩:=h
 exact ⟨by omega,by omega,by omega,by omega,by omega,by omega,by omega,by omega⟩
def mC (k:Nat):Cl8:=((k:Int),((k+1:Nat):Int),((k+1+1:Nat):Int),((k+1+1+1:Nat):Int),((k+1+1+1+1:Nat):Int),((k+1+1+1+1+1:Nat):Int),((k+1+1+1+1+1+1:Nat):Int),((k+1+1+1+1+1+1+1:Nat):Int))
def mF (k:Nat):Fl5:=((k:Int),((k+1:Nat):Int),((k+1+1:Nat):Int),((k+1+1+1:Nat):Int),((k+1+1+1+1:Nat):Int))
def mCs:Nat→Nat→List Cl8
 | _,0=>[]
 | k,n+1=>mC k::mCs (k+1+1+1+1+1+1+1+1) n
def mFs:Nat→Nat→List Fl5
 | _,0=>[]
 | k,n+1=>mF k::mFs (k+1+1+1+1+1) n
theorem Qir {α:Type} {p r:List α} {x y:α}:(p++x::r).set p.length y=p++y::r:=by
 rw [List.set_append_right _ _ (Zd _),Nat.sub_self,List.set_cons_zero]
theorem Qsx {d:Nat}:∀ (r:List Cl8) {p:List Cl8} {k fuel:Nat},r.length < fuel→p.length+r.length≤2000000→k+8*r.length≤1000000000 →
  Qa (l55_0 d (j55_0 d)) fuel ((k:Int),((p.length:Nat):Int),p++r)=some (((k+8*r.length:Nat):Int),p++mCs k r.length)
 | _,p,k,0,h,_,_=>by omega
 | [],p,k,fuel+1,h,h2,h3=>by
  simp only [Qa,l55_0]
  rw [List.append_nil,ltn,Q5]
  unfold j55_0
  simp [mCs]
 | x::r,p,k,fuel+1,h,h2,h3=>by
  simp only [Z9] at h h2 h3
  have hlt:p.length < (p++x::r).length:=by simp
  have hg:(p++x::r)[p.length]? = some x:=by simp
  simp only [Qa,l55_0,Q3,nn,Q4]
  rw [Z5 (show ((p.length:Nat):Int) < (((p++x::r).length:Nat):Int) by omega),Q4,Q02 hlt,Q4,hg,Q9]
  simp only [List.length_set,List.set_set,List.getElem?_set_self hlt,Q9,Q02 hlt,Q4]
  rw [Qir,wr1 (by omega),wr1 (by omega),wr1 (by omega),wr1 (by omega),wr1 (by omega),wr1 (by omega),wr1 (by omega),wr1 (by omega),wr1 (by omega)]
  have:=Qsx (d:=d) r (p:=p++[mC k]) (k:=k+1+1+1+1+1+1+1+1) (fuel:=fuel) (by omega) (by simp;omega) (by omega)
  rw [Zf,show (p++[mC k])++r=p++mC k::r by simp] at this
  simp only [Z9,Zb,mCs]
  rw [show k+8*(r.length+1)=k+1+1+1+1+1+1+1+1+8*r.length by omega,show p++mC k::mCs (k+1+1+1+1+1+1+1+1) r.length=(p++[mC k])++mCs (k+1+1+1+1+1+1+1+1) r.length by simp]
  exact this
theorem Qsy {d:Nat} {l:List Cl8}:∀ (n:Nat) {p:List Cl8} {k fuel:Nat},l=p++mCs k n→n < fuel→p.length+n≤2000000→k+8*n≤1000000000 →
  Qa (l58_0 d l (j58_0 d)) fuel ((k:Int),0,((p.length:Nat):Int))=some ((k+8*n:Nat):Int)
 | n,p,k,0,_,h,_,_=>by omega
 | 0,p,k,fuel+1,e,h,h2,h3=>by
  simp only [mCs,List.append_nil] at e
  subst e
  simp only [Qa,l58_0]
  rw [ltn,Q5]
  unfold j58_0
  simp
 | n+1,p,k,fuel+1,e,h,h2,h3=>by
  have hg:l[p.length]? = some (mC k):=by rw [e];simp [mCs]
  have hlt:=(Z0 hg).1
  simp only [Qa,l58_0,Q3,nn,Q4]
  rw [Z5 (show ((p.length:Nat):Int) < ((l.length:Nat):Int) by omega),Q4,hg]
  simp only [Q9]
  rw [wr1 (by omega),wr1 (by omega),wr1 (by omega),wr1 (by omega),wr1 (by omega),wr1 (by omega),wr1 (by omega),wr1 (by omega),wr1 (by omega)]
  unfold mC
  simp only [bne_self_eq_false,Q5]
  have:=Qsy (d:=d) (l:=l) n (p:=p++[mC k]) (k:=k+1+1+1+1+1+1+1+1) (fuel:=fuel) (by rw [e];simp [mCs]) (by omega) (by simp;omega) (by omega)
  rw [Zf] at this
  simp only [Z9,Zb] at this
  rw [show k+8*(n+1)=k+1+1+1+1+1+1+1+1+8*n by omega]
  exact this
theorem Qsz {d:Nat}:∀ (r:List Fl5) {p:List Fl5} {k fuel:Nat},r.length < fuel→p.length+r.length≤2000000→k+5*r.length≤1000000000 →
  Qa (l56_0 d (j56_0 d)) fuel ((k:Int),((p.length:Nat):Int),p++r)=some (((k+5*r.length:Nat):Int),p++mFs k r.length)
 | _,p,k,0,h,_,_=>by omega
 | [],p,k,fuel+1,h,h2,h3=>by
  simp only [Qa,l56_0]
  rw [List.append_nil,ltn,Q5]
  unfold j56_0
  simp [mFs]
 | x::r,p,k,fuel+1,h,h2,h3=>by
  simp only [Z9] at h h2 h3
  have hlt:p.length < (p++x::r).length:=by simp
  have hg:(p++x::r)[p.length]? = some x:=by simp
  simp only [Qa,l56_0,Q3,nn,Q4]
  rw [Z5 (show ((p.length:Nat):Int) < (((p++x::r).length:Nat):Int) by omega),Q4,Q02 hlt,Q4,hg,Q9]
  simp only [List.length_set,List.set_set,List.getElem?_set_self hlt,Q9,Q02 hlt,Q4]
  rw [Qir,wr1 (by omega),wr1 (by omega),wr1 (by omega),wr1 (by omega),wr1 (by omega),wr1 (by omega)]
  have:=Qsz (d:=d) r (p:=p++[mF k]) (k:=k+1+1+1+1+1) (fuel:=fuel) (by omega) (by simp;omega) (by omega)
  rw [Zf,show (p++[mF k])++r=p++mF k::r by simp] at this
  simp only [Z9,Zb,mFs]
  rw [show k+5*(r.length+1)=k+1+1+1+1+1+5*r.length by omega,show p++mF k::mFs (k+1+1+1+1+1) r.length=(p++[mF k])++mFs (k+1+1+1+1+1) r.length by simp]
  exact this
theorem Qt0 {d:Nat} {l:List Fl5}:∀ (n:Nat) {p:List Fl5} {k fuel:Nat},l=p++mFs k n→n < fuel→p.length+n≤2000000→k+5*n≤1000000000 →
  Qa (l59_0 d l (j59_0 d)) fuel ((k:Int),0,((p.length:Nat):Int))=some ((k+5*n:Nat):Int)
 | n,p,k,0,_,h,_,_=>by omega
 | 0,p,k,fuel+1,e,h,h2,h3=>by
  simp only [mFs,List.append_nil] at e
  subst e
  simp only [Qa,l59_0]
  rw [ltn,Q5]
  unfold j59_0
  simp
 | n+1,p,k,fuel+1,e,h,h2,h3=>by
  have hg:l[p.length]? = some (mF k):=by rw [e];simp [mFs]
  have hlt:=(Z0 hg).1
  simp only [Qa,l59_0,Q3,nn,Q4]
  rw [Z5 (show ((p.length:Nat):Int) < ((l.length:Nat):Int) by omega),Q4,hg]
  simp only [Q9]
  rw [wr1 (by omega),wr1 (by omega),wr1 (by omega),wr1 (by omega),wr1 (by omega),wr1 (by omega)]
  unfold mF
  simp only [bne_self_eq_false,Q5]
  have:=Qt0 (d:=d) (l:=l) n (p:=p++[mF k]) (k:=k+1+1+1+1+1) (fuel:=fuel) (by rw [e];simp [mFs]) (by omega) (by simp;omega) (by omega)
  rw [Zf] at this
  simp only [Z9,Zb] at this
  rw [show k+5*(n+1)=k+1+1+1+1+1+5*n by omega]
  exact this
def mIs:Nat→Nat→List Int
 | _,0=>[]
 | k,n+1=>(k:Int)::mIs (k+1) n
theorem Qt1 {d:Nat}:∀ (r:List Int) {p:List Int} {k fuel:Nat},r.length < fuel→p.length+r.length≤2000000→k+r.length≤1000000000 →
  Qa (l14_0 d (j14_0 d)) fuel ((k:Int),((p.length:Nat):Int),p++r)=some (((k+r.length:Nat):Int),p++mIs k r.length)
 | _,p,k,0,h,_,_=>by omega
 | [],p,k,fuel+1,h,h2,h3=>by
  simp only [Qa,l14_0]
  rw [List.append_nil,ltn,Q5]
  unfold j14_0
  simp [mIs]
 | x::r,p,k,fuel+1,h,h2,h3=>by
  simp only [Z9] at h h2 h3
  have hlt:p.length < (p++x::r).length:=by simp
  have hg:(p++x::r)[p.length]? = some x:=by simp
  simp only [Qa,l14_0,Q3,nn,Q4]
  rw [Z5 (show ((p.length:Nat):Int) < (((p++x::r).length:Nat):Int) by omega),Q4,Q02 hlt,Q4,hg,Q9]
  rw [Qir,wr1 (by omega),wr1 (by omega)]
  have:=Qt1 (d:=d) r (p:=p++[(k:Int)]) (k:=k+1) (fuel:=fuel) (by omega) (by simp;omega) (by omega)
  rw [Zf,show (p++[(k:Int)])++r=p++(k:Int)::r by simp] at this
  simp only [Z9,Zb,mIs]
  rw [show k+(r.length+1)=k+1+r.length by omega,show p++(k:Int)::mIs (k+1) r.length=(p++[(k:Int)])++mIs (k+1) r.length by simp]
  exact this
theorem Q2h {d k:Nat} {l:List Int} (hl:l.length≤1048576) (hk:k≤100000000):g14 (d+1) l (k:Int)=some (((k+l.length:Nat):Int),mIs k l.length):=by
 rw [e14]
 exact Qt1 l (p:=[]) (by rw [Q6];omega) (by simp;omega) (by omega)
theorem Q9b {d k:Nat} {l:List Cl8} (hl:l.length≤1048576) (hk:k≤100000000):g55 (d+1) l (k:Int)=some (((k+8*l.length:Nat):Int),mCs k l.length):=by
 rw [e55]
 exact Qsx l (p:=[]) (by rw [Q6];omega) (by simp;omega) (by omega)
theorem Q7l {d k:Nat} {l:List Fl5} (hl:l.length≤1048576) (hk:k≤100000000):g56 (d+1) l (k:Int)=some (((k+5*l.length:Nat):Int),mFs k l.length):=by
 rw [e56]
 exact Qsz l (p:=[]) (by rw [Q6];omega) (by simp;omega) (by omega)
theorem Qg1 {d k n:Nat} (hl:n≤1048576) (hk:k≤100000000):g58 (d+1) (mCs k n) (k:Int)=some (((k+8*n:Nat):Int)):=by
 rw [e58]
 exact Qsy n (p:=[]) rfl (by rw [Q6];omega) (by simp;omega) (by omega)
theorem Qe3 {d k n:Nat} (hl:n≤1048576) (hk:k≤100000000):g59 (d+1) (mFs k n) (k:Int)=some (((k+5*n:Nat):Int)):=by
 rw [e59]
 exact Qt0 n (p:=[]) rfl (by rw [Q6];omega) (by simp;omega) (by omega)
def mkT (k:Nat) (t:Tk):Tk:=(mIs k t.1.length,mIs (k+t.1.length) t.2.length)
theorem Qlt {d:Nat} {t:Tk} (h1:t.1.length≤2000000) (h2:t.2.length≤2000000):g39 (d+2) t t=some true:=by
 rw [e39,Q4m h1,Q9,Zl,Q5,Q4m h2,Q9,Zl,Q5]
theorem Qlu {d:Nat} {t:Tk} (h1:t.1.length≤1048576) (h2:t.2.length≤1048576):g35 (d+2) t=some t:=by
 rw [e35,Q4k h1,Q9,Q4k h2,Q9]
theorem Qlv {d:Nat} {t:Tk} {n:Int} (h0:0≤n) (h1:n≤1048576) (z1:t.1.length≤9223372036854775807) (z2:t.2.length≤9223372036854775807):Ok (g31 (d+2) t n) fun r=>r < 0∨(0≤r∧r≤n∧t.1.length≤1048576∧t.2.length≤1048576):=by
 have no:Ok (some (-1:Int)) fun r=>r < 0∨(0≤r∧r≤n∧t.1.length≤1048576∧t.2.length≤1048576):=Ok.some (Or.inl (by omega))
 rw [e31]
 refine Ok.bind (Q4l (by omega) (by omega) z1) fun r3 g3=>?_
 refine Ok.oif (fun _=>no) (fun hs3=>?_)
 simp only [decide_eq_false_iff_not] at hs3
 have g3:=g3.resolve_left hs3
 refine Ok.bind (Q4l (by omega) (by omega) z2) fun r4 g4=>?_
 refine Ok.oif (fun _=>no) (fun hs4=>?_)
 simp only [decide_eq_false_iff_not] at hs4
 have g4:=g4.resolve_left hs4
 exact Ok.some (Or.inr ⟨by omega,by omega,by omega,by omega⟩)
theorem Q23 {l:List Int} {i:Nat} {z:Int} (h:i < l.length):l[i]? = some (l.getD i z):=by
 rw [Zr,Z6 h];rfl
def tkO (t:Tk) (c:Cl8) (i:Nat):Bool:=decide (0≤t.1.getD i 0∧t.1.getD i 0≤c.2.2.2.2.1)&&decide (0≤t.2.getD i 0∧t.2.getD i 0≤c.2.2.2.2.2.1)
def tkB (x:Ld) (t:Tk):Bool:=decide (t.1.length=x.2.1.length∧t.2.length=x.2.1.length)&&Q4a (tkO t) x.2.1 0
theorem Qu9 {x:Ld} {t:Tk} (h:tkB x t=true):t.1.length=x.2.1.length∧t.2.length=x.2.1.length:=by
 unfold tkB at h
 simp only [Z8,Zj] at h
 exact h.1
theorem Qe4 {d:Nat} {x:Ld} {t:Tk} (hl:x.2.1.length≤1000):g81 (d+1) x t=some (tkB x t):=by
 rw [e81]
 unfold j81_2 tkB
 by_cases h1:t.1.length=x.2.1.length
 case neg=>rw [show ((((t.1.length:Nat):Int)) != ((x.2.1.length:Nat):Int))=true by simp;omega,Q4,Q4,Z4 (fun h=>h1 h.1)];rfl
 by_cases h2:t.2.length=x.2.1.length
 case neg=>rw [show ((((t.1.length:Nat):Int)) != ((x.2.1.length:Nat):Int))=false by simp;omega,Q5,show ((((t.2.length:Nat):Int)) != ((x.2.1.length:Nat):Int))=true by simp;omega,Q4,Z4 (fun h=>h2 h.2)];rfl
 rw [show ((((t.1.length:Nat):Int)) != ((x.2.1.length:Nat):Int))=false by simp;omega,Q5,show ((((t.2.length:Nat):Int)) != ((x.2.1.length:Nat):Int))=false by simp;omega,Q5,Z5 ⟨h1,h2⟩,Zg]
 refine (Qc (fun (t:Bool) (i:Int)=>(t,i)) x.2.1 (fun c i b k=>oif (tkO t c i) (k b) (some false)) (fun _=>some true) ?_ ?_ (by rw [Q6];omega) false).trans ?_
 ·intro ag b i c hx
  have hi:=(Z0 hx).1
  simp only [l81_0,ltl hx,nn,Q3,hx,Q9,Q4]
  rw [Q23 (l:=t.1) (z:=0) (by omega),Q23 (l:=t.2) (z:=0) (by omega)]
  simp only [Q9]
  unfold j81_1
  by_cases a1:t.1.getD i 0 < 0
  ·rw [Z5 a1,Q4,Q4,show tkO t c i=false by unfold tkO;rw [Z4 (by omega),Bool.false_and],Q5]
  by_cases a2:t.1.getD i 0 > c.2.2.2.2.1
  ·rw [Z4 a1,Q5,Z5 a2,Q4,Q4,show tkO t c i=false by unfold tkO;rw [Z4 (by omega),Bool.false_and],Q5]
  by_cases a3:t.2.getD i 0 < 0
  ·rw [Z4 a1,Q5,Z4 a2,Q5,Z5 a3,Q4,Q4,show tkO t c i=false by unfold tkO;rw [Bool.and_comm,Z4 (by omega),Bool.false_and],Q5]
  by_cases a4:t.2.getD i 0 > c.2.2.2.2.2.1
  ·rw [Z4 a1,Q5,Z4 a2,Q5,Z4 a3,Q5,Z5 a4,Q4,show tkO t c i=false by unfold tkO;rw [Bool.and_comm,Z4 (by omega),Bool.false_and],Q5]
  ·rw [Z4 a1,Q5,Z4 a2,Q5,Z4 a3,Q5,Z4 a4,Q5,show tkO t c i=true by unfold tkO;rw [Z5 (by omega),Z5 (by omega)];rfl,Q4,wr1 (by omega)]
 ·intro ag t;simp only [l81_0,ltn,Q5];rfl
 ·rw [Q03];cases Q4a (tkO t) x.2.1 0<;>rfl
theorem Qlw {d:Nat} {x:Ld} {t:Tk} (hl:x.2.1.length≤1000):g119 (d+2) x t=some (tkB x t):=by
 rw [e119]
 unfold j119_1 tkB
 by_cases h1:t.1.length=x.2.1.length
 case neg=>rw [show ((((t.1.length:Nat):Int)) != ((x.2.1.length:Nat):Int))=true by simp;omega,Q4,Q4,Z4 (fun h=>h1 h.1)];rfl
 by_cases h2:t.2.length=x.2.1.length
 case neg=>rw [show ((((t.1.length:Nat):Int)) != ((x.2.1.length:Nat):Int))=false by simp;omega,Q5,show ((((t.2.length:Nat):Int)) != ((x.2.1.length:Nat):Int))=true by simp;omega,Q4,Z4 (fun h=>h2 h.2)];rfl
 rw [show ((((t.1.length:Nat):Int)) != ((x.2.1.length:Nat):Int))=false by simp;omega,Q5,show ((((t.2.length:Nat):Int)) != ((x.2.1.length:Nat):Int))=false by simp;omega,Q5,Z5 ⟨h1,h2⟩,Zg]
 refine (Qc (fun (t:Bool) (i:Int)=>(t,i)) x.2.1 (fun c i b k=>oif (tkO t c i) (k b) (some false)) (fun _=>some true) ?_ ?_ (by rw [Q6];omega) false).trans ?_
 ·intro ag b i c hx
  have hi:=(Z0 hx).1
  simp only [l119_0,ltl hx,nn,Q3,hx,Q9,Q4]
  rw [Q23 (l:=t.1) (z:=0) (by omega),Q23 (l:=t.2) (z:=0) (by omega),Q9,Q9,Q56,Q9,Q56,Q9,wr1 (by omega)]
  unfold tkO
  cases decide (0≤t.1.getD i 0∧t.1.getD i 0≤c.2.2.2.2.1) with
  | false=>rfl
  | true=>cases decide (0≤t.2.getD i 0∧t.2.getD i 0≤c.2.2.2.2.2.1)<;>rfl
 ·intro ag t;simp only [l119_0,ltn,Q5];rfl
 ·rw [Q03];cases Q4a (tkO t) x.2.1 0<;>rfl
theorem Qt2 {x:Ld} (h:lgB x=true):x.2.1.length≤24:=by
 unfold lgB at h
 simp only [Z8,Zj] at h
 exact h.1.1
theorem Qqr {d:Nat} {x:Ld} {t:Tk} (h:Qqo x):g73 (d+12) x t=some (lgB x&&tkB x t):=by
 rw [e73,Qqq h,Q9]
 cases hg:lgB x with
 | false=>rfl
 | true =>
  have:=Qt2 hg
  rw [Q4,show d+11=d+9+2 by omega,Qlw (by omega),Q9,Zg]
def lvV (F:List Int):List Int:=Q9x (fun f _=>decide (f < 0)) (fun _ k=>((k:Nat):Int)) F 0
theorem Qnl {F:List Int}:(lvV F).length≤F.length:=Qey _ _
theorem Qlx {d:Nat} {x:Ld} (hl:x.2.1.length≤1000) (hE:x.2.2.2.1.length=x.2.1.length):g82 (d+1) x=some (lvV x.2.2.2.1):=by
 rw [e82]
 refine (Qc (fun (t:List Int) (i:Int)=>(t,i)) x.2.2.2.1 (fun f i t k=>oif (decide (f < 0)) (oif (Nat.ble ((t.length+[((i:Nat):Int)].length)*8) Q7) (k (t++[((i:Nat):Int)])) none) (k t)) (fun t=>some t) ?_ ?_ (by rw [Q6];omega) []).trans ?_
 ·intro ag t i f hx
  have hi:=(Z0 hx).1
  simp only [l82_0,← hE,ltl hx,nn,Q3,hx,Q9,Q4]
  rw [wr1 (by omega)]
 ·intro ag t;simp only [l82_0,← hE,ltn,Q5];rfl
 ·rw [Q1y (c:=fun f _=>decide (f < 0)) (e:=fun (_:Int) (k:Nat)=>((k:Nat):Int)) (w:=8) x.2.2.2.1 0 [] (by simp;omega)]
  rfl
theorem Qqs {d k:Nat} {x:Ld} {f:Int} (h:x.2.2.2.1[k]? = some f):g120 (d+1) x ((k:Nat):Int)=some (decide (f < 0)):=by
 rw [e120,nn,Q4,Q3,h,Q9]
theorem Qly {d:Nat} {x:Ld} (hl:x.2.1.length≤1000) (hE:x.2.2.2.1.length=x.2.1.length):g74 (d+2) x=some (lvV x.2.2.2.1):=by
 rw [e74]
 refine (Qc (fun (t:List Int) (i:Int)=>(t,i)) x.2.2.2.1 (fun f i t k=>oif (decide (f < 0)) (oif (Nat.ble ((t.length+[((i:Nat):Int)].length)*8) Q7) (k (t++[((i:Nat):Int)])) none) (k t)) (fun t=>some t) ?_ ?_ (by rw [Q6];omega) []).trans ?_
 ·intro ag t i f hx
  have hi:=(Z0 hx).1
  simp only [l74_0,← hE,ltl hx,Q4]
  rw [Qqs hx,Q9,wr1 (by omega)]
 ·intro ag t;simp only [l74_0,← hE,ltn,Q5];rfl
 ·rw [Q1y (c:=fun f _=>decide (f < 0)) (e:=fun (_:Int) (k:Nat)=>((k:Nat):Int)) (w:=8) x.2.2.2.1 0 [] (by simp;omega)]
  rfl
theorem Qlz {l:List Cl8} (T:Tr l) {i:Int} (hi:vI l i) (hp:0≤Q0z l i):pW l (Q0z l i) < pW l i:=by
 have hv:=Qj1 (l:=l) (i:=i) hp
 obtain ⟨A,B,e⟩:=Qee T _ (Q0z l i) (Zd _) hv
 rw [Qcr T hv] at e
 have hm:i∈(kdI l (Q0z l i)).flatMap (Qa4 l):=List.mem_flatMap.2 ⟨i,(Q6m T hv).2 ⟨hi,rfl⟩,by rw [Qcr T hi];simp⟩
 obtain ⟨m,hm⟩:=List.getElem?_of_mem hm
 have hlt:=(Z0 hm).1
 have h1:(wlk l)[A.length]? = some (Q0z l i):=by rw [e];simp
 have h2:(wlk l)[A.length+1+m]? = some i:=by
  rw [e,List.append_assoc,Zq (by omega),show A.length+1+m - A.length=m+1 by omega,List.cons_append,List.getElem?_cons_succ,List.getElem?_append_left hlt,hm]
 unfold pW
 rw [Q4b (Q0u T) h1,Q4b (Q0u T) h2]
 omega
structure Lk (x:Ld):Prop where
 n24:x.2.1.length≤24
 pl:x.2.2.1.length=x.2.1.length
 fl:x.2.2.2.1.length=x.2.1.length
 pd:∀ (k:Nat) (p:Int),x.2.2.1[k]? = some p→p < (k:Int)
 bur:∀ c∈x.2.1,c.2.2.2.2.1≤1000000∧c.2.2.2.2.2.1≤1000000
theorem Qua {x:Ld} (h:lgB x=true):Lk x:=by
 have h24:=Qt2 h
 unfold lgB smB at h
 simp only [Z8,Zj] at h
 obtain ⟨_,hg,s1,s2,s3,_⟩:=h
 have G:=Qo2 hg
 have T:=G.tr
 have e1:x.2.1.length=(wlk (unV x).2.1).length:=by rw [s1];show ((wlk (unV x).2.1).map _).length=_;rw [List.length_map]
 refine ⟨h24,?_,?_,?_,?_⟩
 ·rw [e1,s2];show ((wlk (unV x).2.1).map _).length=_;rw [List.length_map]
 ·rw [e1,s3];show ((wlk (unV x).2.1).map _).length=_;rw [List.length_map]
 ·intro k p hp
  rw [s2] at hp
  have hp':((wlk (unV x).2.1).map fun i=>pW (unV x).2.1 (Q0z (unV x).2.1 i))[k]? = some p:=hp
  rw [List.getElem?_map] at hp'
  obtain ⟨i,hi,rfl⟩:=Option.map_eq_some_iff.1 hp'
  have hv:=(Q19 T).1 (Zc hi)
  have hk:pW (unV x).2.1 i=(k:Int):=Q4b (Q0u T) hi
  rcases Int.lt_or_le (Q0z (unV x).2.1 i) 0 with h0 | h0
  ·rw [Q9s T h0];omega
  ·have:=Qlz T hv h0;omega
 ·intro c hc
  have hm:c∈(unV x).2.1:=Q49.mem_iff.2 hc
  have:=G.cl
  unfold Qfn at this
  simp only [Z8] at this
  have:=Z3 this.2.2.2.2.2.2.2.1 c hm
  unfold Qfo at this
  simp only [Zj] at this
  omega
abbrev Pk:=Int×Int×Int×Int×Int×Int
def Qcl (n:Int):Bool:=decide (0≤n∧n≤65535)
def Qc6 (p:Pk):Bool:=decide (1≤p.1∧p.1≤100000∧0≤p.2.1∧p.2.1≤65535∧0≤p.2.2.1∧p.2.2.1≤65535∧0≤p.2.2.2.1∧p.2.2.2.1≤65535∧0≤p.2.2.2.2.1∧p.2.2.2.2.1≤65535∧1≤p.2.2.2.2.2∧p.2.2.2.2.2≤1500)
theorem Qcm {d:Nat} {x:Pk}:g64 (d+2) x=some (Qc6 x):=by
 rw [e64,e109,Q9]
 refine (Qc (fun (t:Bool) (i:Int)=>(t,i)) [x.2.1,x.2.2.1,x.2.2.2.1,x.2.2.2.2.1] (fun y _ t k=>oif (Qcl y) (k t) (some false)) (j64_0 (d+1) x) ?_ ?_ (by rw [Q6];simp) false).trans ?_
 ·intro ag t i y hy
  have hi:i < 4:=by have:=(Z0 hy).1;simpa using this
  have h4:decide ((i:Int) < 4)=true:=by simp;omega
  simp only [l64_0,h4,nn,Q3,Q4]
  rw [hy,Q9,wr1 (by omega)]
  unfold Qcl
  by_cases h1:y < 0
  ·rw [Z5 h1,Q4,Z4 (by omega),Q5]
  ·rw [Z4 h1,Q5]
   by_cases h2:y > 65535
   ·rw [Z5 h2,Q4,Z4 (by omega),Q5]
   ·rw [Z4 h2,Q5,Z5 (by omega),Q4]
 ·intro ag t;rfl
 ·rw [Q1h (p:=Qcl)]
  unfold j64_0
  simp only [Q59]
  congr 1
  rw [Bool.eq_iff_iff]
  simp only [List.all_cons,List.all_nil,Bool.and_true,Qcl,Qc6]
  simp
  omega
theorem Qqt {d:Nat} {n:Int}:g105 (d+2) n=some (Qcl n):=by
 rw [e105,Q56,Q9];rfl
theorem Qqu {d:Nat} {x:Pk}:g60 (d+3) x=some (Qc6 x):=by
 rw [e60]
 simp only [Q56,Qqt,Q9,Q59]
 congr 1
 rw [Bool.eq_iff_iff]
 simp [Qcl,Qc6]
 omega
theorem bleT {a b:Nat} (h:a≤b):Nat.ble a b=true:=by rw [Nat.ble_eq];exact h
def Qwy (l:List Pk):Prop:=∀ p∈l,Qc6 p=true
def Qqv (l:List Pk) (id:Int):Bool:=l.any fun p=>p.1==id
theorem Qg2 {β:Type} {id:Int} {yes:Nat→Option β} {fin:Int→Option β} (hy:∀ i j,yes i=yes j):∀ (l:List Pk) (i:Nat) (t:Int),
  Q0a (fun (x:Pk) i (t:Int) k=>oif (x.1==id) (yes i) (k t)) fin l i t=if Qqv l id then yes 0 else fin t
 | [],i,t=>by simp [Q0a,Qqv]
 | x::r,i,t=>by
  simp only [Q0a]
  cases h:x.1==id with
  | true=>simp only [Q4,Qqv,List.any_cons,h,Bool.true_or,if_true];exact hy i 0
  | false=>simp only [Q5,Qqv,List.any_cons,h,Bool.false_or];exact Qg2 hy r (i+1) t
theorem Qub {d:Nat} {l:List Pk} {id:Int} (hl:l.length < 4194304):g112 (d+4) l id=some (Qqv l id):=by
 rw [e112]
 refine (Qc (fun (t:Int) (i:Int)=>(t,i)) l (fun (x:Pk) i (t:Int) k=>oif (x.1==id) (some true) (k t)) (fun _=>some false) ?_ ?_ (by rw [Q6];exact hl) 0).trans ?_
 ·intro ag t i x hx
  have hi:=(Z0 hx).1
  simp only [l112i155i176_0,ltl hx,nn,Q3,hx,Q9,Q4]
  rw [wr1 (by omega)]
  first | done | rfl | simp
 ·intro ag t;simp only [l112i155i176_0,ltn,Q5];rfl
 ·rw [Qg2 (fun _ _=>rfl)];cases Qqv l id<;>rfl
def okI (l:List Pk) (x:Pk) (i:Nat):Bool:=Qc6 x && !Qqv (l.take i) x.1
def apV (l:List Pk):Bool:=Q4a (okI l) l 0
theorem Qt3 (l:List Pk):∀ (r pre:List Pk),l=pre++r→(Q4a (okI l) r pre.length=true↔(∀ x∈r,Qc6 x=true)∧(∀ x∈r,∀ y∈pre,y.1≠x.1)∧(r.map fun p=>p.1).Nodup)
 | [],pre,_=>by simp [Q4a]
 | x::r,pre,h=>by
  have ih:=Qt3 l r (pre++[x]) (by rw [h];simp)
  simp only [Zf,Z9,Zb,Zo] at ih
  have ht:l.take pre.length=pre:=by rw [h];simp
  simp only [Q4a,Z8,ih,okI,ht,Bool.not_eq_true',List.map_cons,List.nodup_cons,List.mem_cons,forall_eq_or_imp,Zh,List.mem_singleton]
  have hh:Qqv pre x.1=false↔∀ y∈pre,y.1≠x.1:=by
   unfold Qqv;rw [List.any_eq_false];simp
  rw [hh]
  constructor
  ·rintro ⟨⟨a,b⟩,c,e,f⟩
   refine ⟨⟨a,c⟩,⟨b,fun z hz y hy=>e z hz y (.inl hy)⟩,fun hm=>?_,f⟩
   obtain ⟨z,hz,hzx⟩:=List.mem_map.1 hm
   exact e z hz x (.inr (.inl rfl)) hzx.symm
  ·rintro ⟨⟨a,c⟩,⟨b,e⟩,g,f⟩
   refine ⟨⟨a,b⟩,c,fun z hz y hy=>?_,f⟩
   rcases hy with hy | hy | hy
   ·exact e z hz y hy
   ·subst hy;exact fun he=>g (List.mem_map.2 ⟨z,hz,he.symm⟩)
   ·simp at hy
theorem Qwz (l:List Pk):apV l=true↔Qwy l∧(l.map fun p=>p.1).Nodup:=by
 have:=Qt3 l l [] rfl
 simp only [Zb,List.not_mem_nil,false_imp_iff,implies_true,true_and] at this
 exact this
theorem Qm0 {d:Nat} {l:List Pk} (hl:l.length < 4194304):g84 (d+5) l=some (apV l):=by
 rw [e84]
 refine (Qc (fun (t:Bool) (i:Int)=>(t,i)) l (fun x i t k=>oif (okI l x i) (k t) (some false)) (fun _=>some true) ?_ ?_ (by rw [Q6];exact hl) false).trans ?_
 ·intro ag t i x hx
  have hi:=(Z0 hx).1
  simp only [l84_0,ltl hx,nn,Q3,hx,Q9,Q4,Qcm]
  rw [wr1 (by omega),bleT (show i≤l.length by omega),Q4,Qub (by simp;omega),Q9]
  unfold okI
  cases Qc6 x<;>cases Qqv (l.take i) x.1<;>rfl
 ·intro ag t;simp only [l84_0,ltn,Q5];rfl
 ·rw [Q03];unfold apV;cases Q4a (okI l) l 0<;>rfl
abbrev Rg:=Ld×Tk×List (List Pk)×Int×Int
def rwL (l:List (List Pk)):Prop:=l.length≤1048576∧∀ r∈l,r.length≤1048576
theorem Q6w {rows:List (List Pk)} {k:Nat} {row:List Pk} (hx:rows[k]? = some row):(rows.take (k+1)).flatten=(rows.take k).flatten++row:=by
 have hk:=(Z0 hx).1
 have e:=(Z0 hx).2
 rw [List.take_succ_eq_append_getElem hk,List.flatten_append,e]
 simp
theorem Qe5 {rows:List (List Pk)} (k:Nat):(rows.take k).flatten.length≤rows.flatten.length:=by
 have:rows.flatten=(rows.take k).flatten++(rows.drop k).flatten:=by rw [← List.flatten_append,List.take_append_drop]
 rw [this,Zf];omega
theorem Qg3 {d:Nat} {l:List (List Pk)} {n:Int} (h0:0≤n) (h1:n≤1048576) (hl:l.length≤9223372036854775807) (hr:∀ r∈l,r.length≤9223372036854775807):Ok (g32 (d+2) l n) fun r=>r < 0∨(0≤r∧rwL l∧l.flatten.length≤1048576∧0≤r∧r≤1048576):=by
 rw [e32,wr (by omega) (by omega)]
 by_cases h:n - ((l.length:Nat):Int) < 0
 ·rw [Z5 h,Q4];exact Ok.some (Or.inl (by omega))
 rw [Z4 h,Q5]
 refine Qa5 (fun (t:Int×Int) (i:Int)=>(t.1,t.2,i)) l (fun k t=>(0≤t.1∧t.1+(((l.take k).flatten.length:Nat):Int)≤1048576)∧∀ (j:Nat) r,j < k→l[j]? = some r→r.length≤1048576) ?_ ?_ Qf 0 (n - ((l.length:Nat):Int),0) (by rw [Q6];omega) (by omega) ⟨⟨by simp only;omega,by simp only [List.take_zero,List.flatten_nil,Zb];omega⟩,fun j r hj=>absurd hj (by omega)⟩
 ·rintro ag ⟨a,b⟩ k row hx ⟨⟨a0,a1⟩,hp⟩ hag
  simp only at a0 a1
  have hk:=(Z0 hx).1
  have hrow:=hr row (Zc hx)
  simp only [l32_0,ltl hx,nn,Q3,hx,Q9,Q4]
  rw [e72,wr (by omega) (by omega)]
  by_cases h5:a - ((row.length:Nat):Int) < 0
  ·rw [Z5 h5,Q4,Q9,Z5 (show (-1:Int) < 0 by omega),Q4];exact Ok.some (Or.inl (by omega))
  ·rw [Z4 h5,Q5,Q9,Z4 h5,Q5,wr1 (by omega)]
   have h6:(l.take (k+1)).flatten.length=(l.take k).flatten.length+row.length:=by rw [Q6w hx,Zf]
   refine hag (a - ((row.length:Nat):Int),b) ⟨⟨by simp only;omega,by simp only;omega⟩,fun j r hj hg=>?_⟩
   by_cases e:j=k
   ·subst e;rw [hx] at hg;injection hg with hg;subst hg;omega
   ·exact hp j r (by omega) hg
 ·rintro ag ⟨a,b⟩ ⟨⟨a0,a1⟩,hp⟩
  simp only at a0 a1
  simp only [l32_0,ltn,Q5]
  rw [List.take_length] at a1
  refine Ok.some (Or.inr ⟨a0,⟨by omega,fun r hr=>?_⟩,by omega,a0,by omega⟩)
  obtain ⟨j,hj⟩:=List.getElem?_of_mem hr
  exact hp j r (Z0 hj).1 hj
def rgL (r:Rg):Prop:=ldL r.1∧r.2.1.1.length≤1048576∧r.2.1.2.length≤1048576∧rwL r.2.2.1
def rgW (r:Rg):Prop:=ldW r.1∧(r.2.1.1.length≤9223372036854775807∧r.2.1.2.length≤9223372036854775807)∧r.2.2.1.length≤9223372036854775807∧∀ q∈r.2.2.1,q.length≤9223372036854775807
theorem Quc {d:Nat} {r:Rg} (h:rgW r):Ok (g7 (d+3) r 1048576) fun z=>z < 0∨(0≤z∧z≤1048576∧rgL r∧r.2.2.1.flatten.length≤1048576):=by
 obtain ⟨z1,z2,z3,z4⟩:=h
 have no:Ok (some (-1:Int)) fun z=>z < 0∨(0≤z∧z≤1048576∧rgL r∧r.2.2.1.flatten.length≤1048576):=Ok.some (Or.inl (by omega))
 rw [e7]
 refine Ok.bind (Qls (by omega) (by omega) z1) fun r3 g3=>?_
 refine Ok.oif (fun _=>no) (fun hs3=>?_)
 simp only [decide_eq_false_iff_not] at hs3
 have g3:=g3.resolve_left hs3
 refine Ok.bind (Qlv (by omega) (by omega) z2.1 z2.2) fun r4 g4=>?_
 refine Ok.oif (fun _=>no) (fun hs4=>?_)
 simp only [decide_eq_false_iff_not] at hs4
 have g4:=g4.resolve_left hs4
 refine Ok.bind (Qg3 (by omega) (by omega) z3 z4) fun r5 g5=>?_
 refine Ok.oif (fun _=>no) (fun hs5=>?_)
 simp only [decide_eq_false_iff_not] at hs5
 have g5:=g5.resolve_left hs5
 exact Ok.some (Or.inr ⟨g5.1,g5.2.2.2.2,⟨g3.2.2,g4.2.2.1,g4.2.2.2,g5.2.1⟩,g5.2.2.1⟩)
theorem Qis {d:Nat} {l:List Pk} (hl:l.length≤1048576):g79 (d+2) l=some l:=by
 rw [e79,nn,Q4,Q4,Q3,show (Nat.ble l.length l.length&&Nat.ble (l.length*48) Q7)=true by rw [Z8,Nat.ble_eq,Nat.ble_eq];unfold Q7;omega,Q4]
 refine Ok.val (Q0q (fun j (s:Int×List Pk)=>∃ k:Nat,k+j=l.length∧s.1=(k:Int)∧s.2=l.take k++List.replicate (l.length - k) ((0,0,0,0,0,0):Pk)) ?_ _ l.length _ (by rw [Q6];omega) ⟨0,by omega,rfl,by simp⟩)
 rintro j ⟨n,r⟩ ag ⟨k,hk,h1,h2⟩ hag
 simp only at h1 h2
 subst h1
 have hrl:r.length=l.length:=by rw [h2];simp;omega
 simp only [l79_0]
 rcases Nat.lt_or_ge k l.length with hlt | hge
 ·have hx:=Z6 hlt
  rw [ltl hx,Q4,nn,Q4,Q3,hx,Q9,e26,Q9,Q4,Q02 (by omega),Q4,Z6 (by omega),Q9,wr1 (by omega)]
  exact hag (j - 1) _ (by omega) ⟨k+1,by omega,rfl,by rw [h2];exact Q7k hx⟩
 ·have:k=l.length:=by omega
  subst this
  rw [ltn,Q5]
  unfold j79_0
  exact Ok.some (by rw [h2];simp)
theorem Qg4 {d:Nat} {l:List (List Pk)} (h:rwL l):g36 (d+3) l=some l:=by
 obtain ⟨hl,hr⟩:=h
 rw [e36,nn,Q4,Q4,Q3,show (Nat.ble l.length l.length&&Nat.ble (l.length*24) Q7)=true by rw [Z8,Nat.ble_eq,Nat.ble_eq];unfold Q7;omega,Q4]
 refine Ok.val (Q0q (fun j (s:Int×List (List Pk))=>∃ k:Nat,k+j=l.length∧s.1=(k:Int)∧s.2=l.take k++List.replicate (l.length - k) ([]:List Pk)) ?_ _ l.length _ (by rw [Q6];omega) ⟨0,by omega,rfl,by simp⟩)
 rintro j ⟨n,r⟩ ag ⟨k,hk,h1,h2⟩ hag
 simp only at h1 h2
 subst h1
 have hrl:r.length=l.length:=by rw [h2];simp;omega
 simp only [l36_0]
 rcases Nat.lt_or_ge k l.length with hlt | hge
 ·have hx:=Z6 hlt
  rw [ltl hx,Q4,nn,Q4,Q3,hx,Q9,Qis (hr _ (List.getElem_mem hlt)),Q9,Q4,Q02 (by omega),Q4,Z6 (show k < r.length by omega),Q9,wr1 (by omega)]
  exact hag (j - 1) _ (by omega) ⟨k+1,by omega,rfl,by rw [h2];exact Q7k hx⟩
 ·have:k=l.length:=by omega
  subst this
  rw [ltn,Q5]
  unfold j36_0
  exact Ok.some (by rw [h2];simp)
theorem Qud {d:Nat} {r:Rg} (h:rgL r):g9 (d+4) r=some r:=by
 obtain ⟨h1,h2,h3,h4⟩:=h
 rw [e9,Qlr h1,Q9,show d+3=d+1+2 by omega,Qlu h2 h3,Q9,show d+1+2=d+3 by omega,Qg4 h4,Q9]
theorem Qit {d:Nat} {l:List Pk} (hl:l.length≤2000000):g86 (d+2) l l=some true:=by
 rw [e86,bne_self_eq_false,Q5]
 refine (Qc (fun (t:Bool) (i:Int)=>(t,i)) l (fun x i t k=>k t) (j86_0 (d+1)) ?_ ?_ (by rw [Q6];omega) false).trans ?_
 ·intro ag t i x hx;have hi:=(Z0 hx).1;simp only [l86_0,ltl hx,nn,Q3,hx,Q9,Q4]
  rw [e127]
  simp only [bne_self_eq_false,Q5,Zl,Q9]
  rw [wr1 (by omega)]
 ·intro ag t;simp only [l86_0,ltn,Q5]
 ·rw [Q0r (f:=fun _ _ t=>t)];rfl
theorem Qg5 {d:Nat} {l:List (List Pk)} (h:rwL l):g40 (d+3) l l=some true:=by
 obtain ⟨hl,hr⟩:=h
 rw [e40,bne_self_eq_false,Q5]
 refine (Qc (fun (t:Bool) (i:Int)=>(t,i)) l (fun x i t k=>k t) (j40_0 (d+2)) ?_ ?_ (by rw [Q6];omega) false).trans ?_
 ·intro ag t i x hx;have hi:=(Z0 hx).1;simp only [l40_0,ltl hx,nn,Q3,hx,Q9,Q4]
  have:=hr _ (Zc hx)
  rw [Qit (by omega),Q9,Zl,Q5,wr1 (by omega)]
 ·intro ag t;simp only [l40_0,ltn,Q5]
 ·rw [Q0r (f:=fun _ _ t=>t)];rfl
theorem Que {d:Nat} {r:Rg} (h:rgL r):g12 (d+4) r r=some true:=by
 obtain ⟨h1,h2,h3,h4⟩:=h
 rw [e12,Qlq h1,Q9,Zl,Q5,show d+3=d+1+2 by omega,Qlt (by omega) (by omega),Q9,Zl,Q5,show d+1+2=d+3 by omega,Qg5 h4,Q9,Zl,Q5,bne_self_eq_false,Q5,bne_self_eq_false,Q5]
theorem Qqw {d:Nat} {rows:List (List Pk)} (hl:rows.length≤1000) (hs:rows.flatten.length≤100000):g85 (d+2) rows=some rows.flatten:=by
 rw [e85]
 have lp1:∀ (m k fuel:Nat),k+m=rows.length→m < fuel→Qa (l85_1 d rows (j85_0 d)) fuel ((rows.take k).flatten,((k:Nat):Int))=some rows.flatten:=by
  intro m
  induction m with
  | zero =>
   intro k fuel e h
   obtain ⟨g,rfl⟩:∃ g,fuel=g+1:=⟨fuel - 1,by omega⟩
   obtain rfl:k=rows.length:=by omega
   simp only [Qa,l85_1,ltn,Q5]
   rw [List.take_length];rfl
  | succ m ih =>
   intro k fuel e h
   obtain ⟨g,rfl⟩:∃ g,fuel=g+1:=⟨fuel - 1,by omega⟩
   have hk:k < rows.length:=by omega
   have hx:=Z6 hk
   have h2:=Qe5 (rows:=rows) (k+1)
   rw [Q6w hx,Zf] at h2
   simp only [Qa,l85_1,ltl hx,nn,Q3,hx,Q9,Q4]
   rw [room (by omega),Q4,wr1 (by omega),← Q6w hx]
   exact ih (k+1) g (by omega) (by omega)
 have lp2:∀ (m k fuel:Nat),k+m=rows.length→m < fuel→Qa (l85_1x d rows (j85_1 d)) fuel ((rows.take k).flatten,((k:Nat):Int))=some rows.flatten:=by
  intro m
  induction m with
  | zero =>
   intro k fuel e h
   obtain ⟨g,rfl⟩:∃ g,fuel=g+1:=⟨fuel - 1,by omega⟩
   obtain rfl:k=rows.length:=by omega
   simp only [Qa,l85_1x,ltn,Q5]
   rw [List.take_length];rfl
  | succ m ih =>
   intro k fuel e h
   obtain ⟨g,rfl⟩:∃ g,fuel=g+1:=⟨fuel - 1,by omega⟩
   have hk:k < rows.length:=by omega
   have hx:=Z6 hk
   have h2:=Qe5 (rows:=rows) (k+1)
   rw [Q6w hx,Zf] at h2
   simp only [Qa,l85_1x,ltl hx,nn,Q3,hx,Q9,Q4]
   rw [room (by omega),Q4,wr1 (by omega),← Q6w hx]
   exact ih (k+1) g (by omega) (by omega)
 have lp0:∀ (m k fuel:Nat),k+m=rows.length→m < fuel→Qa (l85_0 d rows (j85_2 d rows)) fuel ((((rows.take k).flatten.length:Nat):Int),((k:Nat):Int))=j85_2 d rows ((rows.flatten.length:Nat):Int):=by
  intro m
  induction m with
  | zero =>
   intro k fuel e h
   obtain ⟨g,rfl⟩:∃ g,fuel=g+1:=⟨fuel - 1,by omega⟩
   obtain rfl:k=rows.length:=by omega
   simp only [Qa,l85_0,ltn,Q5]
   rw [List.take_length]
  | succ m ih =>
   intro k fuel e h
   obtain ⟨g,rfl⟩:∃ g,fuel=g+1:=⟨fuel - 1,by omega⟩
   have hk:k < rows.length:=by omega
   have hx:=Z6 hk
   have h2:=Qe5 (rows:=rows) (k+1)
   have h3:=Q6w hx
   have h4:(rows.take (k+1)).flatten.length=(rows.take k).flatten.length+(rows[k]).length:=by rw [h3,Zf]
   simp only [Qa,l85_0,ltl hx,nn,Q3,hx,Q9,Q4]
   rw [wr (n:=(((rows.take k).flatten.length:Nat):Int)+(((rows[k]).length:Nat):Int)) (by omega) (by omega),Z4 (by omega),Q5,wr1 (by omega),show (((rows.take k).flatten.length:Nat):Int)+(((rows[k]).length:Nat):Int)=(((rows.take (k+1)).flatten.length:Nat):Int) by omega]
   exact ih (k+1) g (by omega) (by omega)
 refine (lp0 rows.length 0 Qf (by omega) (by rw [Q6];omega)).trans ?_
 unfold j85_2
 have e0:IntKind.i64.wrap ((0:Int) - ((0:Nat):Int))=0:=by rw [wr (by omega) (by omega)];rfl
 rw [Z4 (by omega),Q5,e0,Int.sub_zero,wr (by omega) (by omega)]
 by_cases h:rows.flatten.length=0
 ·rw [Z4 (by omega),Q5]
  exact lp2 rows.length 0 Qf (by omega) (by rw [Q6];omega)
 ·rw [Z5 (by omega),Q4,show Nat.ble 0 0=true from rfl,Q4,nn,Zg,Z5 (by unfold Q7;omega),Q4,Q3,List.length_replicate,show Nat.ble (rows.flatten.length*48) Q7=true by rw [Nat.ble_eq];unfold Q7;omega,Q4]
  rw [show decide (0≤((0:Nat):Int))=true from rfl,Q4,show (((0:Nat):Int)).toNat=0 from rfl,show Nat.ble 0 rows.flatten.length=true by rw [Nat.ble_eq];omega,Q4,List.take_zero]
  exact lp1 rows.length 0 Qf (by omega) (by rw [Q6];omega)
def tkF (f:Fl5) (p:Pk):Bool:=(IntKind.i64.wrap ((BitVec.ofInt IntKind.i64.bits (([p.2.1,p.2.2.1,p.2.2.2.1,p.2.2.2.2.1]:List Int).getD f.2.1.toNat 0) &&& BitVec.ofInt IntKind.i64.bits f.2.2.1).toNat:Int))==f.2.2.2.1
theorem Quf {d:Nat} {f:Fl5} {p:Pk} (h:0≤f.2.1∧f.2.1≤3):g162 (d+2) f p=some (tkF f p):=by
 rw [e162,e109,Q9,Z5 h.1,Q4,Q23 (l:=[p.2.1,p.2.2.1,p.2.2.2.1,p.2.2.2.2.1]) (z:=0) (by simp only [Z9,Zb];omega),Q9]
 rfl
theorem Qnm {d:Nat} {f:Fl5} {p:Pk} (h:0≤f.2.1∧f.2.1≤3):g159 (d+2) f p=some (tkF f p):=by
 have h4:f.2.1.toNat < ([p.2.1,p.2.2.1,p.2.2.2.1,p.2.2.2.2.1]:List Int).length:=by simp only [Z9,Zb];omega
 rw [e159,e178,Z5 h.1,Q4,Q02 h4,Q4,Q23 (l:=[p.2.1,p.2.2.1,p.2.2.2.1,p.2.2.2.2.1]) (z:=0) h4,Q9,Q9]
 rfl
structure Lr (x:Ld):Prop where
 fo:∀ f∈x.2.2.2.2.2.2.1,0≤f.2.1∧f.2.1≤3
 tl:x.2.2.2.2.2.2.2.1.length=x.2.2.2.2.2.2.1.length
 f16:x.2.2.2.2.2.2.1.length≤16
 lim:∀ c∈x.2.1,c.2.2.2.2.2.2.2≤60
 rat:∀ c∈x.2.1,1≤c.2.2.1∧c.2.2.1≤100000∧1≤c.2.2.2.1∧c.2.2.2.1≤100000
 bul:∀ c∈x.2.1,1500≤c.2.2.2.2.1∧1500≤c.2.2.2.2.2.1∧0≤c.2.2.2.2.2.2.1∧c.2.2.2.2.2.2.1≤7
theorem Qug {x:Ld} (h:lgB x=true):Lr x:=by
 unfold lgB smB at h
 simp only [Z8,Zj] at h
 obtain ⟨hz,hg,s1,s2,s3,s4,s5,s6,s7⟩:=h
 have G:=Qo2 hg
 have hc:=G.cl
 unfold Qfn at hc
 simp only [Z8] at hc
 obtain ⟨_,_,_,_,_,h6,h7,h8,h9⟩:=hc
 have hm:∀ c∈x.2.1,c∈(unV x).2.1:=fun c hc=>Q49.mem_iff.2 hc
 refine ⟨fun f hf=>?_,?_,hz.2,fun c hc=>?_,fun c hc=>?_,fun c hc=>?_⟩
 ·have:=(G.tgt f hf).2.2
  unfold Qnx at this
  simp only [Z8,Zj] at this
  omega
 ·rw [s6]
  show (x.2.2.2.2.2.2.1.map _).length=_
  rw [List.length_map]
 ·have:=Z3 h9 c (hm c hc)
  unfold Qif at this
  split at this
  ·simp only [Zj] at this;omega
  ·simp only [beq_iff_eq] at this;omega
 ·have:=Z3 h6 c (hm c hc)
  unfold Q4p at this
  simp only [Zj] at this
  omega
 ·have:=Z3 h8 c (hm c hc)
  unfold Qfo at this
  simp only [Zj] at this
  omega
def ffV (fs:List Fl5) (p:Pk):Int:=fiP (fun f=>tkF f p) fs 0
theorem Qe6 {d:Nat} {fs:List Fl5} {p:Pk} (hl:fs.length≤1000) (h:∀ f∈fs,0≤f.2.1∧f.2.1≤3):g125 (d+3) fs p=some (ffV fs p):=by
 rw [e125]
 refine (Qc (fun (t:Int) (i:Int)=>(t,i)) fs (fun f i t k=>oif (tkF f p) (some ((i:Nat):Int)) (k t)) (fun _=>some (-1)) ?_ ?_ (by rw [Q6];omega) 0).trans (Q2i fs 0 _)
 ·intro ag t i f hx
  have hi:=(Z0 hx).1
  simp only [l125_0,ltl hx,nn,Q3,hx,Q9,Q4]
  rw [Quf (h f (Zc hx)),Q9,wr1 (by omega)]
 ·intro ag t;simp only [l125_0,ltn,Q5];rfl
theorem Qnn {d:Nat} {fs:List Fl5} {p:Pk} (hl:fs.length≤1000) (h:∀ f∈fs,0≤f.2.1∧f.2.1≤3):g121 (d+3) fs p=some (ffV fs p):=by
 rw [e121]
 refine (Qc (fun (t:Int) (i:Int)=>(t,i)) fs (fun f i t k=>oif (tkF f p) (some ((i:Nat):Int)) (k t)) (fun _=>some (-1)) ?_ ?_ (by rw [Q6];omega) 0).trans (Q2i fs 0 _)
 ·intro ag t i f hx
  have hi:=(Z0 hx).1
  simp only [l121_0,ltl hx,nn,Q3,hx,Q9,Q4]
  rw [Qnm (h f (Zc hx)),Q9,wr1 (by omega)]
 ·intro ag t;simp only [l121_0,ltn,Q5];rfl
def lfA (x:Ld) (p:Pk):Int:=if ffV x.2.2.2.2.2.2.1 p≥0 then x.2.2.2.2.2.2.2.1.getD (ffV x.2.2.2.2.2.2.1 p).toNat 0 else x.2.2.2.2.2.2.2.2
theorem Qt4 {fs:List Fl5} {p:Pk} (h:0≤ffV fs p):ffV fs p < ((fs.length:Nat):Int):=by
 obtain ⟨j,y,h1,h2,h3,_⟩:=Q64 h
 have:=(Z0 h2).1
 unfold ffV at *
 omega
theorem Qqx {d:Nat} {x:Ld} {p:Pk} (R:Lr x):g83 (d+4) x p=some (lfA x p):=by
 have h16:=R.f16
 rw [e83,Qe6 (by omega) R.fo,Q9]
 unfold lfA
 by_cases h:ffV x.2.2.2.2.2.2.1 p≥0
 ·have:=Qt4 h
  have:=R.tl
  rw [Z5 h,Q4,Q4,Q23 (l:=x.2.2.2.2.2.2.2.1) (z:=0) (by omega),Q9,if_pos h]
 ·rw [Z4 h,Q5,if_neg h]
theorem Quh {d:Nat} {x:Ld} {p:Pk} (R:Lr x):g76 (d+4) x p=some (lfA x p):=by
 have h16:=R.f16
 rw [e76,Qnn (by omega) R.fo,Q9]
 unfold lfA
 by_cases h:ffV x.2.2.2.2.2.2.1 p≥0
 ·have:=Qt4 h
  have:=R.tl
  rw [Z5 h,Q4,Q4,Q23 (l:=x.2.2.2.2.2.2.2.1) (z:=0) (by omega),Q9,if_pos h]
 ·rw [Z4 h,Q5,if_neg h]
def Qt5 (x:Ld) (w:Int):Int:=(Q0l x.2.1 w).2.2.2.2.2.2.2
def rkB (x:Ld) (w:Int) (row:List Pk):Bool := !decide (((row.length:Nat):Int) > Qt5 x w)&&row.all (fun p=>Qc6 p&&(lfA x p==w))
def rsB (r:Rg):Bool:=decide (r.2.2.1.length=(lvV r.1.2.2.2.1).length)&&(decide (-1≤r.2.2.2.1∧r.2.2.2.1 < (((lvV r.1.2.2.2.1).length:Nat):Int))&&decide (0≤r.2.2.2.2∧r.2.2.2.2≤1000000))
def rnB (r:Rg):Bool:=lgB r.1&&(tkB r.1 r.2.1&&(rsB r&&(Q4a (fun w i=>rkB r.1 w (r.2.2.1.getD i [])) (lvV r.1.2.2.2.1) 0&&apV r.2.2.1.flatten)))
theorem Qiu {F:List Int} {w:Int} (h:w∈lvV F):0≤w∧w < ((F.length:Nat):Int):=by
 obtain ⟨j,x,h1,h2,h3⟩:=Qez _ _ h
 have:=(Z0 h1).1
 omega
theorem Qg6 {l:List (List Pk)} {i:Nat} (h:i < l.length):l[i]? = some (l.getD i []):=by
 rw [Zr,Z6 h];rfl
theorem Qno {x:Ld} {rows:List (List Pk)} {W:List Int} (R:Lr x) (hW:∀ w∈W,vI x.2.1 w) (hl:rows.length=W.length) (h:Q4a (fun w i=>rkB x w (rows.getD i [])) W 0=true):(∀ row∈rows,row.length≤60)∧∀ row∈rows,∀ p∈row,Qc6 p=true:=by
 rw [Q1b] at h
 have key:∀ row∈rows,row.length≤60∧∀ p∈row,Qc6 p=true:=by
  intro row hr
  obtain ⟨i,hi⟩:=List.getElem?_of_mem hr
  have hlt:=(Z0 hi).1
  have hw:=Z6 (l:=W) (i:=i) (by omega)
  have:=h i _ hw
  rw [Zo,Zr,hi] at this
  unfold rkB Qt5 at this
  simp only [Option.getD_some,Z8,Bool.not_eq_true',decide_eq_false_iff_not,List.all_eq_true] at this
  have hv:=hW _ (Zc hw)
  have h60:=R.lim _ (Zc (Q1n hv))
  exact ⟨by omega,fun p hp=>(this.2 p hp).1⟩
 exact ⟨fun row hr=>(key row hr).1,fun row hr=>(key row hr).2⟩
theorem Qcn {B:Nat}:∀ {rows:List (List Pk)},(∀ row∈rows,row.length≤B)→rows.flatten.length≤rows.length*B
 | [],_=>by simp
 | r::rows,h=>by
  have:=Qcn (B:=B) (rows:=rows) fun row hr=>h row (by simp [hr])
  have:=h r (by simp)
  rw [Ze,Zf,Z9,Nat.add_mul,Nat.one_mul]
  omega
theorem Qui {d:Nat} {r:Rg} (h:Qqo r.1):g37 (d+28) r=some (rnB r):=by
 rw [e37,Qlm h,Q9]
 unfold rnB rsB j37_3
 cases hg:lgB r.1 with
 | false=>rfl
 | true =>
  have L:=Qua hg
  have R:=Qug hg
  have h24:=L.n24
  have hf:=L.fl
  have hv:=Qnl (F:=r.1.2.2.2.1)
  rw [Zl,Q5,show d+27=d+26+1 by omega,Qe4 (by omega),Q9,Zg]
  cases hb:tkB r.1 r.2.1 with
  | false=>rfl
  | true =>
   rw [Zl,Q5,Qlx (by omega) hf,Q9,Zg]
   unfold j37_2
   by_cases a:r.2.2.1.length=(lvV r.1.2.2.2.1).length
   case neg=>rw [show ((((r.2.2.1.length:Nat):Int)) != (((lvV r.1.2.2.2.1).length:Nat):Int))=true by simp;omega,Q4,Q4,Z4 a];rfl
   rw [show ((((r.2.2.1.length:Nat):Int)) != (((lvV r.1.2.2.2.1).length:Nat):Int))=false by simp;omega,Q5,Z5 a,Zg]
   by_cases a1:r.2.2.2.1 < -1
   ·rw [Z5 a1,Q4,Q4,Z4 (show ¬ (-1≤r.2.2.2.1∧r.2.2.2.1 < (((lvV r.1.2.2.2.1).length:Nat):Int)) by omega)];rfl
   rw [Z4 a1,Q5]
   by_cases a2:r.2.2.2.1≥(((lvV r.1.2.2.2.1).length:Nat):Int)
   ·rw [Z5 a2,Q4,Q4,Z4 (show ¬ (-1≤r.2.2.2.1∧r.2.2.2.1 < (((lvV r.1.2.2.2.1).length:Nat):Int)) by omega)];rfl
   rw [Z4 a2,Q5,Z5 (show -1≤r.2.2.2.1∧r.2.2.2.1 < (((lvV r.1.2.2.2.1).length:Nat):Int) by omega),Zg]
   by_cases a3:r.2.2.2.2 < 0
   ·rw [Z5 a3,Q4,Q4,Z4 (show ¬ (0≤r.2.2.2.2∧r.2.2.2.2≤1000000) by omega)];rfl
   rw [Z4 a3,Q5]
   by_cases a4:r.2.2.2.2 > 1000000
   ·rw [Z5 a4,Q4,Z4 (show ¬ (0≤r.2.2.2.2∧r.2.2.2.2≤1000000) by omega)];rfl
   rw [Z4 a4,Q5,Z5 (show 0≤r.2.2.2.2∧r.2.2.2.2≤1000000 by omega),Zg]
   have hW:∀ w∈lvV r.1.2.2.2.1,vI r.1.2.1 w:=fun w hw=>by obtain ⟨q1,q2⟩:=Qiu hw;exact ⟨q1,by omega⟩
   refine (Qc (fun (b:Bool) (i:Int)=>(b,i)) (lvV r.1.2.2.2.1) (fun w i b k=>oif (rkB r.1 w (r.2.2.1.getD i [])) (k b) (some false)) (fun b=>j37_0 (d+26+1) r b) ?_ ?_ (by rw [Q6];omega) false).trans ?_
   ·intro ag b i w hx
    have hi:=(Z0 hx).1
    have hv':=hW w (Zc hx)
    have h60:=R.lim _ (Zc (Q1n hv'))
    simp only [l37_0,ltl hx,nn,Q3,hx,Q9,Q4,Qru hx]
    rw [Qg6 (l:=r.2.2.1) (by omega)]
    simp only [Q9]
    rw [Z5 hv'.1,Q4,Q1n hv',Q9]
    unfold rkB Qt5
    by_cases b1:((((r.2.2.1.getD i []).length:Nat):Int)) > (Q0l r.1.2.1 w).2.2.2.2.2.2.2
    ·rw [Z5 b1,Q4,Zl,Bool.false_and,Q5]
    ·rw [Z4 b1,Q5,Bool.not_false,Zg]
     refine (Qc (fun (b:Bool) (j:Int)=>(b,j)) (r.2.2.1.getD i []) (fun p _ b k=>oif (Qc6 p&&(lfA r.1 p==w)) (k b) (some false)) (fun b=>ag (b,((i+1:Nat):Int))) ?_ ?_ (by rw [Q6];omega) b).trans ?_
     ·intro ag' b' j p hp
      have hj:=(Z0 hp).1
      simp only [l37_1,ltl hp,nn,Q3,hp,Q9,Q4]
      rw [show d+26+1=d+25+2 by omega,Qcm,Q9,show d+25+2=d+23+4 by omega,Qqx R,Q9,wr1 (by omega)]
      cases Qc6 p with
      | false=>rfl
      | true =>
       rw [Zl,Q5,Zg]
       by_cases e:lfA r.1 p=w
       ·rw [show (lfA r.1 p != w)=false by rw [e];exact bne_self_eq_false _,Q5,show (lfA r.1 p==w)=true from beq_iff_eq.2 e,Q4]
       ·rw [show (lfA r.1 p != w)=true from bne_iff_ne.2 e,Q4,show (lfA r.1 p==w)=false from beq_eq_false_iff_ne.2 e,Q5]
     ·intro ag' b'
      simp only [l37_1,ltn,Q5]
      unfold j37_1
      rw [wr1 (by omega)]
     ·rw [Q1h (p:=fun p=>Qc6 p&&(lfA r.1 p==w))]
   ·intro ag t;simp only [l37_0,ltn,Q5]
   ·rw [Q03]
    cases hk:Q4a (fun w i=>rkB r.1 w (r.2.2.1.getD i [])) (lvV r.1.2.2.2.1) 0 with
    | false=>rfl
    | true =>
     obtain ⟨r1,r2⟩:=Qno R hW a hk
     have:=Qcn r1
     rw [Q4,Zg]
     unfold j37_0
     rw [show d+26+1=d+25+2 by omega,Qqw (by omega) (by omega),Q9,show d+25+2=d+22+5 by omega,Qm0 (by omega),Q9]
def Qm1 {α τ:Type} (p:α→Nat→τ→Bool) (f:α→Nat→τ→τ):List α→Nat→τ→Bool
 | [],_,_=>true
 | x::r,i,t=>p x i t&&Qm1 p f r (i+1) (f x i t)
theorem Qak {α τ β:Type} {p:α→Nat→τ→Bool} {f:α→Nat→τ→τ} {step:α→Nat→τ→(τ→Option β)→Option β} {no:Option β} {fin:τ→Option β} (I:Nat→τ→Prop):∀ (l:List α) (i:Nat) (t:τ),I i t→(∀ j x t k,l[j]? = some x→I (i+j) t→step x (i+j) t k=oif (p x (i+j) t) (k (f x (i+j) t)) no∧(p x (i+j) t=true→I (i+j+1) (f x (i+j) t)))→Q0a step fin l i t=oif (Qm1 p f l i t) (fin (Q09 f l i t)) no
 | [],i,t,_,_=>rfl
 | x::r,i,t,hI,h=>by
  simp only [Q0a,Q09,Qm1]
  obtain ⟨h1,h2⟩:=h 0 x t (fun t'=>Q0a step fin r (i+1) t') rfl hI
  rw [Nat.add_zero] at h1 h2
  rw [h1]
  cases hp:p x i t with
  | false=>rfl
  | true =>
   rw [Q4,Zg]
   exact Qak I r (i+1) _ (h2 hp) (fun j y t k hy ht=>by
    have:=h (j+1) y t k (by simpa using hy)
    rw [show i+(j+1)=i+1+j by omega] at this
    exact this ht)
abbrev Bs:=Bool×List Int
def ppS (x:Ld) (w:Int) (p:Pk) (_:Nat) (t:Bs):Bool:=Qc6 p&&((lfA x p==w) && !(t.2.any fun z=>z==p.1))
def ffS (p:Pk) (_:Nat) (t:Bs):Bs:=(t.1,t.2++[p.1])
def prS (x:Ld) (W:List Int) (row:List Pk) (i:Nat) (t:Bs):Bool := !decide (((row.length:Nat):Int) > Qt5 x (W.getD i 0))&&Qm1 (ppS x (W.getD i 0)) ffS row 0 t
def frS (row:List Pk) (_:Nat) (t:Bs):Bs:=(t.1,t.2++row.map fun p=>p.1)
theorem Qkb:∀ (row:List Pk) (i:Nat) (t:Bs),Q09 ffS row i t=frS row 0 t
 | [],i,t=>by simp [Q09,frS]
 | p::r,i,t=>by
  simp only [Q09]
  rw [Qkb r (i+1)]
  simp [frS,ffS]
theorem Qt6 {x:Ld} {w:Int}:∀ (row:List Pk) (i:Nat) (t:Bs),Qm1 (ppS x w) ffS row i t=true↔(∀ p∈row,Qc6 p=true∧lfA x p=w)∧(∀ p∈row,p.1∉t.2)∧(row.map fun p=>p.1).Nodup
 | [],i,t=>by simp [Qm1]
 | p::r,i,t=>by
  simp only [Qm1,Z8,Qt6 r (i+1),ppS,ffS,beq_iff_eq,Bool.not_eq_true',List.any_eq_false,List.mem_cons,forall_eq_or_imp,List.map_cons,List.nodup_cons,Zh,List.mem_singleton]
  constructor
  ·rintro ⟨⟨a1,a2,a3⟩,b1,b2,b3⟩
   refine ⟨⟨⟨a1,a2⟩,b1⟩,⟨fun hm=>a3 _ hm rfl,fun q hq hm=>b2 q hq (Or.inl hm)⟩,fun hm=>?_,b3⟩
   obtain ⟨q,hq,e⟩:=List.mem_map.1 hm
   exact b2 q hq (Or.inr (Or.inl e))
  ·rintro ⟨⟨⟨a1,a2⟩,b1⟩,⟨c1,c2⟩,n1,n2⟩
   refine ⟨⟨a1,a2,fun z hz e=>c1 (e▸hz)⟩,b1,fun q hq hm=>?_,n2⟩
   rcases hm with hm | hm | hm
   ·exact c2 q hq hm
   ·exact n1 (List.mem_map.2 ⟨q,hq,hm⟩)
   ·simp at hm
theorem Qt7 {x:Ld} {W:List Int}:∀ (rows:List (List Pk)) (i:Nat) (t:Bs),Qm1 (prS x W) frS rows i t=true↔(∀ j row,rows[j]? = some row→rkB x (W.getD (i+j) 0) row=true)∧(∀ p∈rows.flatten,p.1∉t.2)∧(rows.flatten.map fun p=>p.1).Nodup
 | [],i,t=>by simp [Qm1]
 | row::rows,i,t=>by
  simp only [Qm1,Z8,Qt7 rows (i+1),prS,Qt6,frS,Ze,Zh,List.map_append,Zn]
  have hrow:rkB x (W.getD i 0) row=true↔(!decide (((row.length:Nat):Int) > Qt5 x (W.getD i 0)))=true∧∀ p∈row,Qc6 p=true∧lfA x p=W.getD i 0:=by
   unfold rkB
   simp only [Z8,List.all_eq_true,beq_iff_eq]
  constructor
  ·rintro ⟨⟨a1,a2,a3,a4⟩,b1,b2,b3⟩
   refine ⟨fun j r hj=>?_,fun p hp hm=>?_,a4,b3,fun y hy z hz e=>?_⟩
   ·cases j with
    | zero=>simp only [List.getElem?_cons_zero,Option.some.injEq] at hj;subst hj;exact hrow.2 ⟨a1,a2⟩
    | succ j=>have:=b1 j r (by simpa using hj);rw [show i+(j+1)=i+1+j by omega];exact this
   ·rcases hp with hp | hp
    ·exact a3 p hp hm
    ·exact b2 p hp (Or.inl hm)
   ·obtain ⟨q,hq,rfl⟩:=List.mem_map.1 hz
    exact b2 q hq (Or.inr (e▸hy))
  ·rintro ⟨h1,h2,n1,n2,n3⟩
   obtain ⟨a1,a2⟩:=hrow.1 (h1 0 row rfl)
   refine ⟨⟨a1,a2,fun p hp=>h2 p (Or.inl hp),n1⟩,fun j r hj=>?_,fun p hp hm=>?_,n2⟩
   ·have:=h1 (j+1) r (by simpa using hj);rw [show i+(j+1)=i+1+j by omega] at this;exact this
   ·rcases hm with hm | hm
    ·exact h2 p (Or.inr hp) hm
    ·exact n3 _ hm _ (List.mem_map.2 ⟨p,hp,rfl⟩) rfl
theorem Quj {x:Ld} {rows:List (List Pk)} {W:List Int} (hl:rows.length=W.length):Qm1 (prS x W) frS rows 0 (false,[])=(Q4a (fun w i=>rkB x w (rows.getD i [])) W 0&&apV rows.flatten):=by
 rw [Bool.eq_iff_iff,Qt7,Z8,Q1b,Qwz]
 constructor
 ·rintro ⟨h1,_,h3⟩
  refine ⟨fun j w hw=>?_,fun p hp=>?_,h3⟩
  ·have hj:=(Z0 hw).1
   have:=h1 j _ (Qg6 (l:=rows) (i:=j) (by omega))
   rw [Zo] at this ⊢
   rw [Zr (l:=W),hw] at this
   exact this
  ·obtain ⟨row,hr,hp⟩:=List.mem_flatten.1 hp
   obtain ⟨j,hj⟩:=List.getElem?_of_mem hr
   have:=h1 j _ hj
   unfold rkB at this
   simp only [Z8,List.all_eq_true] at this
   exact (this.2 p hp).1
 ·rintro ⟨h1,h2,h3⟩
  refine ⟨fun j row hj=>?_,fun p _ hm=>by simp at hm,h3⟩
  have hlt:=(Z0 hj).1
  have:=h1 j _ (Q23 (l:=W) (i:=j) (z:=0) (by omega))
  rw [Zo] at this ⊢
  rw [Zr (l:=rows),hj] at this
  exact this
theorem Qqy {d:Nat} {l:List Int} {n:Int} (hl:l.length < 4194304):g77 (d+1) l n=some (l.any fun x=>x==n):=by
 rw [e77]
 refine (Qc (fun (t:Bool) (i:Int)=>(t,i)) l (fun x _ t k=>oif (x==n) (some true) (k t)) (fun _=>some false) ?_ ?_ (by rw [Q6];exact hl) false).trans ?_
 ·intro ag t i x hx;have hi:=(Z0 hx).1;simp only [l77_0,ltl hx,nn,Q3,hx,Q9,Q4];rw [wr1 (by omega)]
 ·intro ag t;simp only [l77_0,ltn,Q5];rfl
 ·exact Q7m l 0 false
theorem Qzi {d:Nat} {r:Rg} (R:Lr r.1) {W:List Int} {w:Int} {i:Nat} (hw:W[i]? = some w) (hW:W.length≤1000) {row:List Pk} {k:Bs→Option Bool} (t:Bs) (ht:t.2.length≤10000) (hr:row.length≤60) :
  Qa (l33_1 (d+4) r W (i:Int) row (fun b _ l=>k (b,l))) Qf (t.1,t.2,0)=oif (Qm1 (ppS r.1 w) ffS row 0 t) (k (frS row 0 t)) (some false):=by
 refine (Qc (fun (t:Bs) (i:Int)=>(t.1,t.2,i)) row (fun p _ t k=>oif (Qc6 p) (oif (lfA r.1 p==w) (Q1 (g77 (d+4) t.2 p.1) fun h=>oif h (some false) (oif (Nat.ble ((t.2.length+[p.1].length)*8) Q7) (k (t.1,t.2++[p.1])) none)) (some false)) (some false)) (fun t=>k t) ?_ ?_ (by rw [Q6];omega) t).trans ?_
 ·intro ag' b' j p hp
  have hj:=(Z0 hp).1
  simp only [l33_1,ltl hp,nn,Q3,hp,Q9,Q4,Qru hw,hw]
  rw [show d+4=d+1+3 by omega,Qqu,Q9,show d+1+3=d+4 by omega,Quh R,Q9,wr1 (by omega)]
  cases Qc6 p with
  | false=>rfl
  | true =>
   rw [Zl,Q5,Q4]
   by_cases e:lfA r.1 p=w
   ·rw [show (lfA r.1 p != w)=false by rw [e];exact bne_self_eq_false _,Q5,show (lfA r.1 p==w)=true from beq_iff_eq.2 e,Q4]
   ·rw [show (lfA r.1 p != w)=true from bne_iff_ne.2 e,Q4,show (lfA r.1 p==w)=false from beq_eq_false_iff_ne.2 e,Q5]
 ·intro ag' b'
  simp only [l33_1,ltn,Q5]
 ·rw [Qak (p:=ppS r.1 w) (f:=ffS) (fun j t=>t.2.length≤10000+j) row 0 t (by omega) ?_,Qkb]
  intro j p t k hp hI
  have hj:=(Z0 hp).1
  rw [show d+4=d+3+1 by omega,Qqy (by omega),Q9,room (by simp;omega),Q4]
  refine ⟨?_,fun _=>by unfold ffS;simp;omega⟩
  unfold ppS
  cases Qc6 p with
  | false=>rfl
  | true =>
   rw [Q4,Zg]
   cases (lfA r.1 p==w) with
   | false=>rfl
   | true=>rw [Q4,Zg];cases (t.2.any fun z=>z==p.1)<;>rfl
theorem Qqz {d:Nat} {r:Rg} (h:Qqo r.1):g33 (d+13) r=some (rnB r):=by
 rw [e33,Qqr h,Q9]
 unfold rnB rsB
 cases hg:lgB r.1 with
 | false=>rfl
 | true =>
  have L:=Qua hg
  have R:=Qug hg
  have h24:=L.n24
  have hf:=L.fl
  have hv:=Qnl (F:=r.1.2.2.2.1)
  cases hb:tkB r.1 r.2.1 with
  | false=>rfl
  | true =>
   rw [Zg,Zg,Zg,Zl,Q5,show d+12=d+10+2 by omega,Qly (by omega) hf,Q9]
   unfold j33_2
   by_cases a:r.2.2.1.length=(lvV r.1.2.2.2.1).length
   case neg=>rw [show ((((r.2.2.1.length:Nat):Int)) != (((lvV r.1.2.2.2.1).length:Nat):Int))=true by simp;omega,Q4,Q4,Z4 a];rfl
   rw [show ((((r.2.2.1.length:Nat):Int)) != (((lvV r.1.2.2.2.1).length:Nat):Int))=false by simp;omega,Q5,Z5 a,Zg,show d+10+2=d+11+1 by omega,Q56,Q9,wr (by omega) (by omega)]
   by_cases a1:-1≤r.2.2.2.1∧r.2.2.2.1 < (((lvV r.1.2.2.2.1).length:Nat):Int)
   case neg=>rw [Z4 (show ¬ (-1≤r.2.2.2.1∧r.2.2.2.1≤(((lvV r.1.2.2.2.1).length:Nat):Int) - 1) by omega),Bool.not_false,Q4,Q4,Z4 a1];rfl
   rw [Z5 (show -1≤r.2.2.2.1∧r.2.2.2.1≤(((lvV r.1.2.2.2.1).length:Nat):Int) - 1 by omega),Zl,Q5,Z5 a1,Zg,Q56,Q9]
   cases decide (0≤r.2.2.2.2∧r.2.2.2.2≤1000000) with
   | false=>rfl
   | true =>
    rw [Zl,Q5,Zg,← Quj a]
    have hW:∀ w∈lvV r.1.2.2.2.1,vI r.1.2.1 w:=fun w hw=>by obtain ⟨q1,q2⟩:=Qiu hw;exact ⟨q1,by omega⟩
    refine (Qc (fun (t:Bs) (i:Int)=>(t.1,t.2,i)) r.2.2.1 (fun row i t k=>oif (decide (((row.length:Nat):Int) > Qt5 r.1 ((lvV r.1.2.2.2.1).getD i 0))) (some false) (Qa (l33_1 (d+11+1) r (lvV r.1.2.2.2.1) (i:Int) row (fun b _ l=>k (b,l))) Qf (t.1,t.2,0))) (fun _=>some true) ?_ ?_ (by rw [Q6];omega) (false,[])).trans ?_
    ·intro ag t i row hx
     have hi:=(Z0 hx).1
     have hlt:i < (lvV r.1.2.2.2.1).length:=by omega
     have hw:=Q23 (l:=lvV r.1.2.2.2.1) (i:=i) (z:=0) hlt
     have hv':=hW _ (Zc hw)
     simp only [l33_0,ltl hx,nn,Q3,hx,Q9,Q4]
     rw [Q02 hlt,Q4,hw,Q9,Z5 hv'.1,Q4,Q1n hv',Q9]
     rw [show j33_1 (d+11+1) ag (i:Int)=fun b _ l=>ag (b,l,((i+1:Nat):Int)) from by
      funext b n l
      unfold j33_1
      rw [wr1 (by omega)]]
     rfl
    ·intro ag t;simp only [l33_0,ltn,Q5];rfl
    ·rw [Qak (p:=prS r.1 (lvV r.1.2.2.2.1)) (f:=frS) (fun i t=>t.2.length≤60*i) r.2.2.1 0 (false,[]) (by simp) ?_]
     ·cases Qm1 (prS r.1 (lvV r.1.2.2.2.1)) frS r.2.2.1 0 (false,[])<;>rfl
     ·intro j row t k hj hI
      rw [Zo] at hI ⊢
      have hi:=(Z0 hj).1
      have hw:=Q23 (l:=lvV r.1.2.2.2.1) (i:=j) (z:=0) (by omega)
      have hv':=hW _ (Zc hw)
      have h60:=R.lim _ (Zc (Q1n hv'))
      unfold prS
      by_cases b1:((row.length:Nat):Int) > Qt5 r.1 ((lvV r.1.2.2.2.1).getD j 0)
      ·rw [Z5 b1,Q4,Zl,Bool.false_and,Q5]
       exact ⟨rfl,fun h=>absurd h (by simp)⟩
      ·rw [Z4 b1,Q5,Bool.not_false,Zg]
       unfold Qt5 at b1
       rw [show d+11+1=d+8+4 by omega,Qzi R hw (by omega) t (by omega) (by omega)]
       refine ⟨rfl,fun _=>?_⟩
       unfold frS
       simp only [Zf,List.length_map]
       omega
structure Ro (r:Rg):Prop where
 lk:Lk r.1
 lr:Lr r.1
 t1:r.2.1.1.length=r.1.2.1.length
 t2:r.2.1.2.length=r.1.2.1.length
 rl:r.2.2.1.length=(lvV r.1.2.2.2.1).length
 rb:∀ row∈r.2.2.1,row.length≤60
 rp:∀ row∈r.2.2.1,∀ p∈row,Qc6 p=true
 la:-1≤r.2.2.2.1∧r.2.2.2.1 < (((lvV r.1.2.2.2.1).length:Nat):Int)
 nw:0≤r.2.2.2.2∧r.2.2.2.2≤1000000
theorem Qzj {r:Rg} (h:rnB r=true):Ro r:=by
 unfold rnB rsB at h
 simp only [Z8,Zj] at h
 obtain ⟨h1,h2,⟨h3,h4,h5⟩,h6,h7⟩:=h
 have L:=Qua h1
 have R:=Qug h1
 obtain ⟨t1,t2⟩:=Qu9 h2
 have hf:=L.fl
 obtain ⟨r1,r2⟩:=Qno R (fun w hw=>by obtain ⟨q1,q2⟩:=Qiu hw;exact ⟨q1,by omega⟩) h3 h6
 exact ⟨L,R,t1,t2,h3,r1,r2,h4,h5⟩
theorem Qx0 {r:Rg} (h:rnB r=true):lgB r.1=true:=by
 unfold rnB at h
 simp only [Z8] at h
 exact h.1
theorem Qe7 {d k:Nat} {l:List Pk} (hl:l.length≤1048576) (hk:k≤100000000):Ok (g87 (d+1) l (k:Int)) fun z=>z.1=((k+6*l.length:Nat):Int)∧z.2.length=l.length:=by
 rw [e87]
 refine Q0q (fun j (s:Int×Int×List Pk)=>∃ i:Nat,i+j=l.length∧s.1=((k+6*i:Nat):Int)∧s.2.1=(i:Int)∧s.2.2.length=l.length) ?_ _ l.length _ (by rw [Q6];omega) ⟨0,by omega,rfl,rfl,rfl⟩
 rintro j ⟨n,i',r⟩ ag ⟨i,hi,h1,h2,h3⟩ hag
 simp only at h1 h2 h3
 subst h1;subst h2
 simp only [l87_0,Q3,nn,Q4]
 rcases Nat.lt_or_ge i l.length with hlt | hge
 ·have hlr:i < r.length:=by omega
  rw [Z5 (show ((i:Nat):Int) < ((r.length:Nat):Int) by omega),Q4,Q02 hlr,Q4,Z6 hlr,Q9]
  simp only [List.length_set,List.set_set,List.getElem?_set_self hlr,Q9,Q02 hlr,Q4]
  rw [wr1 (by omega),wr1 (by omega),wr1 (by omega),wr1 (by omega),wr1 (by omega),wr1 (by omega),wr1 (by omega)]
  exact hag (j - 1) _ (by omega) ⟨i+1,by omega,by simp only;omega,rfl,by simp only [List.length_set];exact h3⟩
 ·rw [Z4 (show ¬ ((i:Nat):Int) < ((r.length:Nat):Int) by omega),Q5]
  obtain rfl:i=l.length:=by omega
  exact Ok.some ⟨rfl,h3⟩
theorem Qm2 {d k:Nat} {β:Type} {F:((Int×Int×List (List Pk))→Option β)→(Int×Int×List (List Pk))→Option β} {kx:Int→List (List Pk)→Option β} {rows:List (List Pk)} {Q:β→Prop}
  (hF:∀ ag n i rs,F ag (n,i,rs)=oif (decide (i < ((rs.length:Nat):Int))) (oif (decide (0≤i)) (oif (Nat.blt i.toNat rs.length) (Q1 (rs[i.toNat]?) fun a=>Q1 (rs[i.toNat]?) fun b=>oif (Nat.beq b.length a.length) (Q1 (g87 (d+1) a n) fun z=>ag (z.1,IntKind.i64.wrap (i+1),rs.set i.toNat z.2)) none) none) none) (kx n rs))
  (h:rwL rows) (hf:rows.flatten.length≤1048576) (hk:k≤50000000) (hkx:∀ (k':Nat) rs,k'≤k+6291456→Ok (kx (k':Int) rs) Q):Ok (Qa F Qf ((k:Int),0,rows)) Q:=by
 obtain ⟨hl,hr⟩:=h
 refine Q0q (fun j (s:Int×Int×List (List Pk))=>∃ i:Nat,i+j=rows.length∧s.1=((k+6*(rows.take i).flatten.length:Nat):Int)∧s.2.1=(i:Int)∧s.2.2.length=rows.length∧∀ m,i≤m→s.2.2[m]? = rows[m]?) ?_ _ rows.length _ (by rw [Q6];omega) ⟨0,by omega,rfl,rfl,rfl,fun m _=>rfl⟩
 rintro j ⟨n,i',rs⟩ ag ⟨i,hi,h1,h2,h3,h4⟩ hag
 simp only at h1 h2 h3 h4
 subst h1;subst h2
 rw [hF]
 have hfl:=Qe5 (rows:=rows) i
 rcases Nat.lt_or_ge i rows.length with hlt | hge
 ·have hx:=Z6 hlt
  have hy:=(h4 i (Zd _)).trans hx
  have hz:=Q6w hx
  have hz2:(rows.take (i+1)).flatten.length=(rows.take i).flatten.length+(rows[i]).length:=by rw [hz,Zf]
  rw [Z5 (show ((i:Nat):Int) < ((rs.length:Nat):Int) by omega),Q4,nn,Q4,Q3,Q02 (by omega),Q4,hy,Q9,Q9,show Nat.beq (rows[i]).length (rows[i]).length=true by rw [Nat.beq_eq],Q4]
  refine Ok.bind (Qe7 (hr _ (List.getElem_mem hlt)) (by omega)) fun z hz'=>?_
  obtain ⟨z1,z2⟩:=hz'
  rw [wr1 (by omega)]
  refine hag (j - 1) _ (by omega) ⟨i+1,by omega,?_,rfl,by simp only [List.length_set];exact h3,fun m hm=>?_⟩
  ·simp only [z1];omega
  ·simp only
   rw [List.getElem?_set_ne (by omega)]
   exact h4 m (by omega)
 ·rw [Z4 (show ¬ ((i:Nat):Int) < ((rs.length:Nat):Int) by omega),Q5]
  exact hkx _ _ (by omega)
theorem Qr0 {d:Nat} {x:Ld} (hg:lgB x=true):g51 (d+26) x=some (unV x):=by
 unfold lgB at hg
 simp only [Z8,Zj] at hg
 obtain ⟨⟨h1,h2⟩,h3,h4⟩:=hg
 obtain ⟨c,hc,c1,c2,c3,c4⟩:=Qk9 (d:=d) (x:=x) (by omega) (by omega)
 obtain ⟨u1,u2⟩:=Qww c1 c2 c3 c4
 rw [hc,u2 h3]
theorem Quk {x:Ld} (h:lgB x=true):(unV x).2.1.length≤24∧(unV x).2.2.1.length≤16:=by
 unfold lgB at h
 simp only [Z8,Zj] at h
 refine ⟨?_,h.1.2⟩
 show (Qw4 x.2.1).length≤24
 rw [Q49.length_eq];exact h.1.1
def coV (r:Rg):Cf×Bool:=if rnB r=true then (unV r.1,true) else (zC,false)
theorem Qe8 {d:Nat} {r:Rg} (h:Qqo r.1):g23 (d+29) r=some (coV r):=by
 rw [e23,Qui h,Q9]
 unfold coV
 cases hg:rnB r with
 | false=>rfl
 | true=>rw [Zl,Q5,show d+28=(d+2)+26 by omega,Qr0 (Qx0 hg),Q9,if_pos rfl]
theorem Qc7 {d:Nat} {r:Rg} (h:Qqo r.1):g22 (d+14) r=some (coV r):=by
 rw [e22,Qqz h,Q9]
 unfold coV
 cases hg:rnB r with
 | false=>rfl
 | true =>
  have O:=Qzj hg
  have h24:=O.lk.n24
  have h16:=O.lr.f16
  rw [Zl,Q5,show d+13=(d+11)+2 by omega,Qka (by omega) (by omega),Q9,if_pos rfl]
theorem Qul {r:Rg}:(coV r).1.2.1.length≤24∧(coV r).1.2.2.1.length≤16:=by
 unfold coV
 split
 ·rename_i h;exact Quk (Qx0 h)
 ·exact ⟨by simp [zC],by simp [zC]⟩
abbrev tyC:Ty:=.pair (.int .i64) (.pair (.int .i64) (.pair (.int .i64) (.pair (.int .i64) (.pair (.int .i64) (.pair (.int .i64) (.pair (.int .i64) (.int .i64)))))))
abbrev tyF:Ty:=.pair (.int .i64) (.pair (.int .i64) (.pair (.int .i64) (.pair (.int .i64) (.int .i64))))
abbrev tyLd:Ty:=.pair .str (.pair (.sl tyC) (.pair (.sl (.int .i64)) (.pair (.sl (.int .i64)) (.pair (.sl (.int .i64)) (.pair (.sl (.int .i64)) (.pair (.sl tyF) (.pair (.sl (.int .i64)) (.int .i64))))))))
abbrev tyT:Ty:=.pair (.sl (.int .i64)) (.sl (.int .i64))
theorem Qx1 {x:Ld} (h:Wf tyLd x):ldW x:=by
 obtain ⟨h1,⟨h2,_⟩,⟨h3,_⟩,⟨h4,_⟩,⟨h5,_⟩,⟨h6,_⟩,⟨h7,_⟩,⟨h8,_⟩,_⟩:=h
 exact ⟨h1,h2,h3,h4,h5,h6,h7,h8⟩
def tkW (t:Tk):Prop:=t.1.length≤9223372036854775807∧t.2.length≤9223372036854775807
theorem Qx2 {t:Tk} (h:Wf tyT t):tkW t:=by
 obtain ⟨⟨h2,_⟩,⟨h3,_⟩⟩:=h
 exact ⟨h2,h3⟩
abbrev tyPk:Ty:=.pair (.int .i64) (.pair (.int .i64) (.pair (.int .i64) (.pair (.int .i64) (.pair (.int .i64) (.int .i64)))))
abbrev tyRn:Ty:=.pair tyLd (.pair tyT (.pair (.sl (.sl tyPk)) (.pair (.int .i64) (.int .i64))))
theorem Qx3 {r:Rg} (h:Wf tyRn r):rgW r:=by
 obtain ⟨h1,h2,⟨h3,h4⟩,_⟩:=h
 exact ⟨Qx1 h1,Qx2 h2,h3,fun q hq=>(h4 q hq).1⟩
theorem Qr1 {d:Nat} {r:Rg} (hw:rgW r):g5 (d+32) r=some true:=by
 rw [show d+32=(d+29)+3 by omega,e5]
 obtain ⟨z,hz,hB⟩:=Quc (d:=d+28) hw
 rw [show d+29+2=d+28+3 by omega,hz,Q9]
 by_cases h:z < 0
 ·rw [Z5 h,Q4]
 obtain ⟨y0,y1,hl,hfl⟩:=hB.resolve_left h
 rw [Z4 h,Q5]
 obtain ⟨l1,l2,l3,l4⟩:=id hl
 obtain ⟨z1,z2,z3,z4,z5,z6,z7,z8⟩:=id l1
 have hV:=Qul (r:=r)
 have hT:g9 (d+28+3) r=some r:=by rw [show d+28+3=d+27+4 by omega];exact Qud hl
 have hE:g12 (d+28+3) r r=some true:=by rw [show d+28+3=d+27+4 by omega];exact Que hl
 have hA:g23 (d+28+3) r=some (coV r):=by rw [show d+28+3=d+2+29 by omega];exact Qe8 l1.sz
 have hS:g22 (d+28+3) r=some (coV r):=by rw [show d+28+3=d+17+14 by omega];exact Qc7 l1.sz
 have hQ:g20 (d+28+3) (coV r).1 (coV r).1=some true:=Qlp (by omega) (by omega)
 have hH:g24 (d+28+3) ((coV r).1.1,mCs 1 (coV r).1.2.1.length,mFs (1+8*(coV r).1.2.1.length) (coV r).1.2.2.1.length,(coV r).1.2.2.2) 1=some (((1+8*(coV r).1.2.1.length+5*(coV r).1.2.2.1.length:Nat):Int)):=by
  rw [show d+28+3=d+29+1+1 by omega,e24]
  simp only []
  rw [show (1:Int)=((1:Nat):Int) from rfl,Qg1 (by omega) (by omega),Q9,Z4 (by omega),Q5,Qe3 (by omega) (by omega),Q9,Z4 (by omega),Q5]
 rw [hT,Q9,hS,Q9,Q9,hA,Q9,hQ,Q9,Zl,Q5,beq_self_eq_true,Zl]
 unfold j5_2
 rw [Q5,show d+29+2=d+28+3 by omega,hT,Q9,hE,Q9,Zl,Q5]
 rw [show d+29=d+28+1 by omega,show (1:Int)=((1:Nat):Int) from rfl,Q9b z2 (by omega),Q9]
 simp only []
 rw [Q2h z3 (by omega),Q9]
 simp only []
 rw [Q2h z4 (by omega),Q9]
 simp only []
 rw [Q2h z5 (by omega),Q9]
 simp only []
 rw [Q2h z6 (by omega),Q9]
 simp only []
 rw [Q7l z7 (by omega),Q9]
 simp only []
 rw [Q2h z8 (by omega),Q9]
 simp only []
 rw [Q2h l2 (by omega),Q9]
 simp only []
 rw [Q2h l3 (by omega),Q9]
 simp only []
 refine Ok.val (Qm2 (fun ag n i rs=>rfl) l4 hfl (by omega) fun k' rs hk'=>?_)
 unfold j5i13i43_0
 rw [Z4 (by omega),Q5,show d+28+1+2=d+28+3 by omega,hQ,Q9,Zl,Q5,beq_self_eq_true,Zl]
 unfold j5_1
 rw [Q5,show d+28+1+1=d+29+1 by omega,show (1:Int)=((1:Nat):Int) from rfl,Q9b (by omega) (by omega),Q9]
 simp only []
 rw [Q7l (by omega) (by omega),Q9]
 simp only []
 rw [show d+28+1+2=d+28+3 by omega,show ((1:Nat):Int)=1 from rfl,hH,Q9,Z4 (by omega),Q5,bne_self_eq_false,Q5,hT,Q9,hA,Q9,hQ,Q9,Zl,Q5,beq_self_eq_true,Zl]
 unfold j5_0
 rw [Q5,show d+28+1+2=d+28+3 by omega]
 simp only []
 rw [hH,Q9,Z4 (by omega),Q5,bne_self_eq_false,Q5]
 exact Ok.some rfl
def tysLaw:List Ty:=[tyRn]
theorem lawAny:Qtu Tryz.prog Qb (32) 5 tysLaw :=
 ⟨rfl,rfl,rfl,fun a h=>⟨true,Qr1 (d:=0) (Qx3 (h ⟨_,a⟩ (List.Mem.head _))),rfl⟩⟩
end Go.Proofs.YtnnmeljlcdmljaaGreatDoor
