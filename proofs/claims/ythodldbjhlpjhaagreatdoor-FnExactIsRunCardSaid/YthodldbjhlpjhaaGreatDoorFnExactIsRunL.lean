/-
  Configurations by value. And what stood behind it in 5 texts.
  Conditions: said at the theorems.
-/
import Derived.Test.YthodldbjhlpjhaaGreatDoorK15
import Derived.Test.YthodldbjhlpjhaaGreatDoorRepW
set_option linter.all false
namespace Go.Proofs.YthodldbjhlpjhaaGreatDoor
open Go.Ev Go.Pv
instance dec4:DecidableEq (Int×Int×Int×Int):=inferInstance
theorem tw_all {p:Cl8→Bool}:∀ {l:List Cl8},(∀ y∈l,p y=true)→l.takeWhile p=l
 | [],_=>rfl
 | z::l,h=>by rw [List.takeWhile_cons,if_pos (h z (by simp)),tw_all (fun y hy=>h y (by simp [hy]))]
def putV (l:List Cl8) (x:Cl8):List Cl8:=(l.takeWhile fun y=>decide (y.1 < x.1))++x::l.dropWhile fun y=>decide (y.1 < x.1)
def insV (l:List Cl8):List Cl8:=foldI (fun x _ t=>putV t x) l 0 []
theorem putV_perm {l:List Cl8} {x:Cl8}:(putV l x).Perm (x::l):=by
 unfold putV
 refine List.perm_middle.trans (List.Perm.cons x ?_)
 rw [List.takeWhile_append_dropWhile]
theorem putV_len {l:List Cl8} {x:Cl8}:(putV l x).length=l.length+1:=by rw [putV_perm.length_eq];rfl
theorem dropWhile_ge {x:Cl8}:∀ {l:List Cl8},Srt kyC l→∀ y∈l.dropWhile (fun y=>decide (y.1 < x.1)),x.1≤y.1
 | [],_,y,hy=>by simp at hy
 | z::l,h,y,hy=>by
  rw [List.dropWhile_cons] at hy
  have h':=List.pairwise_cons.1 h
  by_cases hz:z.1 < x.1
  ·rw [if_pos (by simpa using hz)] at hy
   exact dropWhile_ge h'.2 y hy
  ·rw [if_neg (by simpa using hz)] at hy
   rcases List.mem_cons.1 hy with rfl | hy
   ·omega
   ·have:=h'.1 y hy;unfold kyC at this;omega
theorem takeWhile_lt {x:Cl8}:∀ {l:List Cl8},∀ y∈l.takeWhile (fun y=>decide (y.1 < x.1)),y.1 < x.1
 | [],y,hy=>by simp at hy
 | z::l,y,hy=>by
  rw [List.takeWhile_cons] at hy
  by_cases hz:z.1 < x.1
  ·rw [if_pos (by simpa using hz)] at hy
   rcases List.mem_cons.1 hy with rfl | hy
   ·exact hz
   ·exact takeWhile_lt y hy
  ·rw [if_neg (by simpa using hz)] at hy;simp at hy
theorem putV_srt {l:List Cl8} {x:Cl8} (h:Srt kyC l):Srt kyC (putV l x):=by
 have hl:Srt kyC (l.takeWhile (fun y=>decide (y.1 < x.1))++l.dropWhile (fun y=>decide (y.1 < x.1))):=by rw [List.takeWhile_append_dropWhile];exact h
 unfold putV Srt
 unfold Srt at hl
 rw [List.pairwise_append] at hl ⊢
 refine ⟨hl.1,List.pairwise_cons.2 ⟨fun y hy=>dropWhile_ge h y hy,hl.2.1⟩,fun a ha b hb=>?_⟩
 rcases List.mem_cons.1 hb with rfl | hb
 ·have:=takeWhile_lt a ha;unfold kyC;omega
 ·exact hl.2.2 a ha b hb
theorem ins_fold:∀ (l:List Cl8) (i:Nat) (t:List Cl8),Srt kyC t→Srt kyC (foldI (fun x _ t=>putV t x) l i t)∧(foldI (fun x _ t=>putV t x) l i t).Perm (l++t)
 | [],i,t,h=>⟨h,List.Perm.refl _⟩
 | x::r,i,t,h=>by
  simp only [foldI]
  obtain ⟨h1,h2⟩:=ins_fold r (i+1) (putV t x) (putV_srt h)
  refine ⟨h1,h2.trans ?_⟩
  exact (List.Perm.append_left r putV_perm).trans List.perm_middle
theorem insV_srt {l:List Cl8}:Srt kyC (insV l):=(ins_fold l 0 [] List.Pairwise.nil).1
theorem insV_perm {l:List Cl8}:(insV l).Perm l:=by
 have:=(ins_fold l 0 [] List.Pairwise.nil).2
 rw [List.append_nil] at this;exact this
theorem ids_nodup {l:List Cl8} (h:idsB l=true):(l.map (·.1)).Nodup:=by
 rw [List.nodup_iff_pairwise_ne,List.pairwise_map,List.pairwise_iff_getElem]
 intro i j hi hj hij e
 have:=ids_lt h j i _ _ hij (List.getElem?_eq_getElem hi) (List.getElem?_eq_getElem hj)
 omega
theorem map_inj {l:List Cl8} (h:(l.map (·.1)).Nodup) {a b:Cl8} (ha:a∈l) (hb:b∈l) (e:a.1=b.1):a=b:=by
 obtain ⟨i,hi⟩:=List.getElem?_of_mem ha
 obtain ⟨j,hj⟩:=List.getElem?_of_mem hb
 obtain ⟨hi1,hi2⟩:=List.getElem?_eq_some_iff.1 hi
 obtain ⟨hj1,hj2⟩:=List.getElem?_eq_some_iff.1 hj
 have:=(List.getElem_inj (h₀:=show i < (l.map (·.1)).length by simpa using hi1) (h₁:=show j < (l.map (·.1)).length by simpa using hj1) h).1 (by simp [hi2,hj2,e])
 subst this
 rw [← hi2,← hj2]
theorem srt_eq {l S:List Cl8} (h:Stb kyC l S) (hd:(l.map (·.1)).Nodup):S=insV l:=by
 refine List.Perm.eq_of_pairwise (le:=fun a b=>kyC a≤kyC b) (fun a b ha hb h1 h2=>?_) h.srt insV_srt (h.perm.trans insV_perm.symm)
 unfold kyC at h1 h2
 exact map_inj hd (h.perm.mem_iff.1 ha) (insV_perm.mem_iff.1 hb) (by omega)
theorem gd_nodup {c:Cf} {l:List Cl8} (h:gdB c=true) (hp:c.2.1.Perm l):(l.map (·.1)).Nodup:=by
 have hc:=(gd_of h).cl
 unfold clsB at hc
 simp only [Bool.and_eq_true] at hc
 exact (hp.map _).nodup_iff.1 (ids_nodup hc.2.1)
def dfL (x:Ld):Int:=if 0≤x.2.2.2.2.2.2.2.2∧x.2.2.2.2.2.2.2.2 < ((x.2.1.length:Nat):Int) then (clAt x.2.1 x.2.2.2.2.2.2.2.2).1 else 0
def unV (x:Ld):Cf:=(x.1,insV x.2.1,x.2.2.2.2.2.2.1,dfL x)
theorem un_eq {x:Ld} {c:Cf} (h1:c.1=x.1) (h2:Stb kyC x.2.1 c.2.1) (h3:c.2.2.1=x.2.2.2.2.2.2.1) (h4:c.2.2.2=dfL x):gdB c=gdB (unV x)∧(gdB (unV x)=true→c=unV x):=by
 obtain ⟨c1,c2,c3,c4⟩:=c
 simp only at h1 h2 h3 h4
 subst h1 h3 h4
 by_cases hd:(x.2.1.map (·.1)).Nodup
 ·have e:=srt_eq h2 hd
  subst e
  exact ⟨rfl,fun _=>rfl⟩
 ·have e1:gdB (x.1,c2,x.2.2.2.2.2.2.1,dfL x)=false:=Bool.eq_false_iff.2 fun h=>hd (gd_nodup h h2.perm)
  have e2:gdB (unV x)=false:=Bool.eq_false_iff.2 fun h=>hd (gd_nodup h insV_perm)
  exact ⟨by rw [e1,e2],fun h=>by rw [e2] at h;simp at h⟩
theorem p_sort {d:Nat} {l:List Cl8} {b:Bool} (hl:l.length≤1000000):Ok (g80 (d+25) l b) fun r=>Stb kyC l r:=by
 rw [e80]
 exact Ok.bind (p_stableC hl) fun r hr=>Ok.some hr
theorem p_unload {d:Nat} {x:Ld} (hl:x.2.1.length≤1000) (hf:x.2.2.2.2.2.2.1.length≤1000):Ok (g50 (d+26) x) fun c=>c.1=x.1∧Stb kyC x.2.1 c.2.1∧c.2.2.1=x.2.2.2.2.2.2.1∧c.2.2.2=dfL x:=by
 rw [e50,q_CloneC hl,ob_s,q_CloneF hf,ob_s]
 unfold j50_0 dfL
 by_cases h0:x.2.2.2.2.2.2.2.2≥0
 ·rw [decide_eq_true h0,oif_t]
  by_cases h1:x.2.2.2.2.2.2.2.2 < ((x.2.1.length:Nat):Int)
  ·rw [decide_eq_true h1,oif_t,oif_t,get_clAt h0 h1,ob_s,if_pos ⟨h0,h1⟩]
   exact Ok.bind (p_sort (by omega)) fun r hr=>Ok.some ⟨rfl,hr,rfl,rfl⟩
  ·rw [decide_eq_false h1,oif_f,if_neg (fun h=>h1 h.2)]
   exact Ok.bind (p_sort (by omega)) fun r hr=>Ok.some ⟨rfl,hr,rfl,rfl⟩
 ·rw [decide_eq_false h0,oif_f,oif_f,if_neg (fun h=>h0 h.1)]
  exact Ok.bind (p_sort (by omega)) fun r hr=>Ok.some ⟨rfl,hr,rfl,rfl⟩
theorem q_cfPut {d:Nat} {l:List Cl8} {x:Cl8} (hl:l.length≤10000):g123 (d+1) l x=some (putV l x):=by
 rw [e123]
 have fin:j123_0 d l x (((l.takeWhile fun y=>decide (y.1 < x.1)).length:Nat):Int)=some (putV l x):=by
  have hle:(l.takeWhile fun y=>decide (y.1 < x.1)).length≤l.length:=by
   have:=congrArg List.length (List.takeWhile_append_dropWhile (p:=fun y:Cl8=>decide (y.1 < x.1)) (l:=l))
   rw [List.length_append] at this;omega
  have ht:l.take (l.takeWhile fun y=>decide (y.1 < x.1)).length=l.takeWhile fun y=>decide (y.1 < x.1):=by
   conv=>lhs;arg 2;rw [← List.takeWhile_append_dropWhile (p:=fun y:Cl8=>decide (y.1 < x.1)) (l:=l)]
   rw [List.take_left]
  have hd:l.drop (l.takeWhile fun y=>decide (y.1 < x.1)).length=l.dropWhile fun y=>decide (y.1 < x.1):=by
   conv=>lhs;arg 2;rw [← List.takeWhile_append_dropWhile (p:=fun y:Cl8=>decide (y.1 < x.1)) (l:=l)]
   rw [List.drop_left]
  unfold j123_0
  simp only [nn,ofNat_toNat,oif_t]
  rw [ble_t hle,oif_t,oif_t,room (by simp;omega),oif_t,room (by simp;omega),oif_t,room (by simp;omega),oif_t,ht,hd]
  unfold putV
  simp
 have key:∀ (B A:List Cl8) (fuel:Nat),l=A++B→(∀ y∈A,y.1 < x.1)→B.length < fuel→iterP (l123_0 d l x (j123_0 d l x)) fuel ((A.length:Nat):Int)=some (putV l x):=by
  intro B
  induction B with
  | nil =>
   intro A fuel e hA hf
   obtain ⟨g,rfl⟩:∃ g,fuel=g+1:=⟨fuel - 1,by omega⟩
   rw [List.append_nil] at e
   have ht:(l.takeWhile fun y=>decide (y.1 < x.1))=A:=by rw [e];exact tw_all (fun y hy=>by simpa using hA y hy)
   simp only [iterP,l123_0,l123_0_b]
   rw [show (l.length:Int)=((A.length:Nat):Int) by rw [e],ltn,oif_f]
   rw [ht] at fin;exact fin
  | cons z B ih =>
   intro A fuel e hA hf
   obtain ⟨g,rfl⟩:∃ g,fuel=g+1:=⟨fuel - 1,by omega⟩
   have hlt:A.length < l.length:=by rw [e];simp
   have hg:l[A.length]? = some z:=by rw [e];simp
   simp only [iterP,l123_0,l123_0_b]
   rw [decide_eq_true (show ((A.length:Nat):Int) < ((l.length:Nat):Int) by omega),oif_t,nn,oif_t,ofNat_toNat,hg,ob_s]
   by_cases hz:z.1 < x.1
   ·rw [decide_eq_true hz,oif_t,wr1 (by omega)]
    have:=ih (A++[z]) g (by rw [e];simp) (fun y hy=>by
     rcases List.mem_append.1 hy with h | h
     ·exact hA y h
     ·simp at h;subst h;exact hz) (by simpa using hf)
    rw [List.length_append] at this
    exact this
   ·rw [decide_eq_false hz,oif_f]
    have ht:(l.takeWhile fun y=>decide (y.1 < x.1))=A:=by
     rw [e,List.takeWhile_append_of_pos (fun y hy=>by simpa using hA y hy),List.takeWhile_cons,if_neg (by simpa using hz),List.append_nil]
    rw [ht] at fin;exact fin
 exact key l [] fuelN rfl (by simp) (by rw [fuelN_eq];omega)
theorem q_loBack {d:Nat} {x:Ld} (hl:x.2.1.length≤1000) (hf:x.2.2.2.2.2.2.1.length≤1000):g96 (d+2) x=some (unV x):=by
 rw [e96,room (by simp;omega),oif_t,List.nil_append]
 refine (range_eq (fun (t:List Cl8) (i:Int)=>(i,((x.1,t,x.2.2.2.2.2.2.1,0):Cf))) x.2.1 (fun y _ t k=>obind (g123 (d+1) t y) fun r=>k r) (fun t=>j96_0 (d+1) x x.1 0 t x.2.2.2.2.2.2.1) ?_ ?_ (by rw [fuelN_eq];omega) []).trans ?_
 ·intro ag t i y hx
  have hi:=(List.getElem?_eq_some_iff.1 hx).1
  simp only [l96_0,l96_0_b,ltl hx,nn,ofNat_toNat,hx,ob_s,oif_t]
  rw [wr1 (by omega)]
 ·intro ag t;simp only [l96_0,l96_0_b,ltn,oif_f]
 ·rw [rangeR_foldI (f:=fun y _ t=>putV t y) (fun k t=>t.length=k) x.2.1 0 [] rfl (fun j y t k hy ht=>by
   have hj:=(List.getElem?_eq_some_iff.1 hy).1
   rw [q_cfPut (by omega),ob_s]
   exact ⟨rfl,by rw [putV_len];omega⟩)]
  unfold j96_0
  rw [q_l1In,ob_s]
  show _=some (x.1,insV x.2.1,x.2.2.2.2.2.2.1,dfL x)
  unfold dfL
  rw [wr (by omega) (by omega)]
  by_cases h:0≤x.2.2.2.2.2.2.2.2∧x.2.2.2.2.2.2.2.2 < ((x.2.1.length:Nat):Int)
  ·rw [if_pos h,decide_eq_true (show 0≤x.2.2.2.2.2.2.2.2∧x.2.2.2.2.2.2.2.2≤((x.2.1.length:Nat):Int) - 1 by omega),oif_t,decide_eq_true h.1,oif_t,get_clAt h.1 h.2,ob_s]
   rfl
  ·rw [if_neg h,decide_eq_false (show ¬ (0≤x.2.2.2.2.2.2.2.2∧x.2.2.2.2.2.2.2.2≤((x.2.1.length:Nat):Int) - 1) by omega),oif_f]
   rfl
theorem all_same {α:Type} [DecidableEq α]:∀ {a b:List α} {i:Nat} {c:List α},i=c.length→a.length=b.length→allI (fun x j=>decide ((c++b)[j]? = some x)) a i=decide (a=b)
 | [],[],i,c,_,_=>by simp [allI]
 | x::a,y::b,i,c,hi,h=>by
  subst hi
  have h1:(c++y::b)[c.length]? = some y:=by simp
  have ih:=all_same (a:=a) (b:=b) (i:=c.length+1) (c:=c++[y]) (by simp) (by simpa using h)
  rw [show c++[y]++b=c++y::b by simp] at ih
  simp only [allI]
  rw [ih,h1]
  by_cases hxy:x=y
  ·subst hxy;simp
  ·rw [decide_eq_false (show ¬ some y=some x by simp;exact fun e=>hxy e.symm),Bool.false_and,decide_eq_false (by simp [hxy])]
 | [],_::_,_,_,_,h=>by simp at h
 | _::_,[],_,_,_,h=>by simp at h
theorem q_eqI {d:Nat} {a b:List Int} (hl:a.length < 4000000):g54 (d+1) a b=some (decide (a=b)):=by
 rw [e54]
 by_cases h:a.length=b.length
 case neg=>rw [show ((((a.length:Nat):Int)) != ((b.length:Nat):Int))=true by simp;omega,oif_t,decide_eq_false (fun e=>h (by rw [e]))]
 rw [show ((((a.length:Nat):Int)) != ((b.length:Nat):Int))=false by simp;omega,oif_f]
 refine (range_eq (fun (t:Bool) (i:Int)=>(t,i)) a (fun x i t k=>oif (decide (([]++b)[i]? = some x)) (k t) (some false)) (fun _=>some true) ?_ ?_ (by rw [fuelN_eq];omega) false).trans ?_
 ·intro ag t i x hx;have hi:=(List.getElem?_eq_some_iff.1 hx).1;simp only [l54_0,l54_0_b,ltl hx,nn,ofNat_toNat,hx,ob_s,oif_t];rw [wr1 (by omega)]
  have hb:i < b.length:=by omega
  rw [List.nil_append,List.getElem?_eq_getElem hb,ob_s]
  by_cases hxy:x=b[i]
  ·rw [show (x != b[i])=false by simp [hxy],oif_f,decide_eq_true (by rw [hxy]),oif_t]
  ·rw [show (x != b[i])=true by simp [hxy],oif_t,decide_eq_false (show ¬ some b[i]=some x by simp;exact fun e=>hxy e.symm),oif_f]
 ·intro ag t;simp only [l54_0,l54_0_b,ltn,oif_f];rfl
 ·rw [rangeR_allI,all_same (i:=0) (c:=[]) rfl h];cases decide (a=b)<;>rfl
theorem q_l1Same {d:Nat} {a b:List Int} (hl:a.length < 4000000):g128 (d+1) a b=some (decide (a=b)):=by
 rw [e128]
 by_cases h:a.length=b.length
 case neg=>rw [show ((((a.length:Nat):Int)) != ((b.length:Nat):Int))=true by simp;omega,oif_t,decide_eq_false (fun e=>h (by rw [e]))]
 rw [show ((((a.length:Nat):Int)) != ((b.length:Nat):Int))=false by simp;omega,oif_f]
 refine (range_eq (fun (t:Bool) (i:Int)=>(t,i)) a (fun x i t k=>oif (decide (([]++b)[i]? = some x)) (k t) (some false)) (fun _=>some true) ?_ ?_ (by rw [fuelN_eq];omega) false).trans ?_
 ·intro ag t i x hx;have hi:=(List.getElem?_eq_some_iff.1 hx).1;simp only [l128_0,l128_0_b,ltl hx,nn,ofNat_toNat,hx,ob_s,oif_t];rw [wr1 (by omega)]
  have hb:i < b.length:=by omega
  rw [List.nil_append,List.getElem?_eq_getElem hb,ob_s]
  by_cases hxy:x=b[i]
  ·rw [show (x != b[i])=false by simp [hxy],oif_f,decide_eq_true (by rw [hxy]),oif_t]
  ·rw [show (x != b[i])=true by simp [hxy],oif_t,decide_eq_false (show ¬ some b[i]=some x by simp;exact fun e=>hxy e.symm),oif_f]
 ·intro ag t;simp only [l128_0,l128_0_b,ltn,oif_f];rfl
 ·rw [rangeR_allI,all_same (i:=0) (c:=[]) rfl h];cases decide (a=b)<;>rfl
theorem cl_beq {x y:Cl8}:((x.1==y.1)&&((x.2.1==y.2.1)&&((x.2.2.1==y.2.2.1)&&((x.2.2.2.1==y.2.2.2.1)&&((x.2.2.2.2.1==y.2.2.2.2.1)&&((x.2.2.2.2.2.1==y.2.2.2.2.2.1)&&((x.2.2.2.2.2.2.1==y.2.2.2.2.2.2.1)&&((x.2.2.2.2.2.2.2==y.2.2.2.2.2.2.2)&&true))))))))=decide (x=y):=by
 obtain ⟨x1,x2,x3,x4,x5,x6,x7,x8⟩:=x
 obtain ⟨y1,y2,y3,y4,y5,y6,y7,y8⟩:=y
 rw [Bool.eq_iff_iff];simp
theorem fl_beq {x y:Fl5}:((x.1==y.1)&&((x.2.1==y.2.1)&&((x.2.2.1==y.2.2.1)&&((x.2.2.2.1==y.2.2.2.1)&&((x.2.2.2.2==y.2.2.2.2)&&true)))))=decide (x=y):=by
 obtain ⟨x1,x2,x3,x4,x5⟩:=x
 obtain ⟨y1,y2,y3,y4,y5⟩:=y
 rw [Bool.eq_iff_iff];simp
theorem q_eqC {d:Nat} {a b:List Cl8} (hl:a.length < 4000000):g53 (d+1) a b=some (decide (a=b)):=by
 rw [e53]
 by_cases h:a.length=b.length
 case neg=>rw [show ((((a.length:Nat):Int)) != ((b.length:Nat):Int))=true by simp;omega,oif_t,decide_eq_false (fun e=>h (by rw [e]))]
 rw [show ((((a.length:Nat):Int)) != ((b.length:Nat):Int))=false by simp;omega,oif_f]
 refine (range_eq (fun (t:Bool) (i:Int)=>(t,i)) a (fun x i t k=>oif (decide (([]++b)[i]? = some x)) (k t) (some false)) (fun _=>some true) ?_ ?_ (by rw [fuelN_eq];omega) false).trans ?_
 ·intro ag t i x hx;have hi:=(List.getElem?_eq_some_iff.1 hx).1;simp only [l53_0,l53_0_b,ltl hx,nn,ofNat_toNat,hx,ob_s,oif_t];rw [wr1 (by omega)]
  have hb:i < b.length:=by omega
  rw [List.nil_append,List.getElem?_eq_getElem hb,ob_s,cl_beq]
  by_cases hxy:x=b[i]
  ·rw [decide_eq_true hxy,Bool.not_true,oif_f,decide_eq_true (by rw [hxy]),oif_t]
  ·rw [decide_eq_false hxy,Bool.not_false,oif_t,decide_eq_false (show ¬ some b[i]=some x by simp;exact fun e=>hxy e.symm),oif_f]
 ·intro ag t;simp only [l53_0,l53_0_b,ltn,oif_f];rfl
 ·rw [rangeR_allI,all_same (i:=0) (c:=[]) rfl h];cases decide (a=b)<;>rfl
def smB (x y:Ld):Bool:=decide (x.2.1=y.2.1)&&(decide (x.2.2.1=y.2.2.1)&&(decide (x.2.2.2.1=y.2.2.2.1)&&(decide (x.2.2.2.2.1=y.2.2.2.2.1)&&(decide (x.2.2.2.2.2.1=y.2.2.2.2.2.1)&&(decide (x.2.2.2.2.2.2.2.1=y.2.2.2.2.2.2.2.1)&&(x.2.2.2.2.2.2.2.2==y.2.2.2.2.2.2.2.2))))))
def lgB (x:Ld):Bool:=decide (x.2.1.length≤24∧x.2.2.2.2.2.2.1.length≤16)&&(gdB (unV x)&&smB x (ldV (unV x)))
def ldSz (x:Ld):Prop:=x.1.size < 4000000∧x.2.1.length < 4000000∧x.2.2.1.length < 4000000∧x.2.2.2.1.length < 4000000∧x.2.2.2.2.1.length < 4000000∧x.2.2.2.2.2.1.length < 4000000∧x.2.2.2.2.2.2.1.length < 4000000∧x.2.2.2.2.2.2.2.1.length < 4000000
theorem q_IsLoaded {d:Nat} {x:Ld} (h:ldSz x):g22 (d+27) x=some (lgB x):=by
 obtain ⟨z1,z2,z3,z4,z5,z6,z7,z8⟩:=h
 rw [e22]
 unfold j22_0 lgB
 by_cases h1:x.2.1.length≤24
 case neg=>rw [decide_eq_true (show ((x.2.1.length:Nat):Int) > 24 by omega),oif_t,oif_t,decide_eq_false (fun h=>h1 h.1)];rfl
 rw [decide_eq_false (show ¬ ((x.2.1.length:Nat):Int) > 24 by omega),oif_f]
 by_cases h2:x.2.2.2.2.2.2.1.length≤16
 case neg=>rw [decide_eq_true (show ((x.2.2.2.2.2.2.1.length:Nat):Int) > 16 by omega),oif_t,decide_eq_false (fun h=>h2 h.2)];rfl
 rw [decide_eq_false (show ¬ ((x.2.2.2.2.2.2.1.length:Nat):Int) > 16 by omega),oif_f,decide_eq_true ⟨h1,h2⟩,Bool.true_and]
 obtain ⟨c,hc,c1,c2,c3,c4⟩:=p_unload (d:=d) (x:=x) (by omega) (by omega)
 obtain ⟨u1,u2⟩:=un_eq c1 c2 c3 c4
 have hcl:=c2.len
 rw [hc,ob_s,show d+26=(d+18)+8 by omega,q_IsConfig (by omega) (by rw [c3];omega),ob_s,u1]
 cases hg:gdB (unV x) with
 | false=>rfl
 | true =>
  have e:=u2 hg
  subst e
  rw [Bool.not_true,oif_f,show d+18+8=(d+12)+14 by omega,q_loadConfig (gd_of hg),ob_s,Bool.true_and]
  unfold smB
  rw [show d+12+14=(d+25)+1 by omega,q_eqC (by omega),ob_s]
  cases decide (x.2.1=(ldV (unV x)).2.1) with
  | false=>rfl
  | true =>
  rw [oif_t,q_eqI (by omega),ob_s]
  cases decide (x.2.2.1=(ldV (unV x)).2.2.1) with
  | false=>rfl
  | true =>
  rw [oif_t,q_eqI (by omega),ob_s]
  cases decide (x.2.2.2.1=(ldV (unV x)).2.2.2.1) with
  | false=>rfl
  | true =>
  rw [oif_t,q_eqI (by omega),ob_s]
  cases decide (x.2.2.2.2.1=(ldV (unV x)).2.2.2.2.1) with
  | false=>rfl
  | true =>
  rw [oif_t,q_eqI (by omega),ob_s]
  cases decide (x.2.2.2.2.2.1=(ldV (unV x)).2.2.2.2.2.1) with
  | false=>rfl
  | true =>
  rw [oif_t,q_eqI (by omega),ob_s]
  cases decide (x.2.2.2.2.2.2.2.1=(ldV (unV x)).2.2.2.2.2.2.2.1) with
  | false=>rfl
  | true=>rw [oif_t];rfl
theorem q_loSame {d:Nat} {u y:Ld} (h:ldSz u) (hn:u.1=y.1) (hf:u.2.2.2.2.2.2.1=y.2.2.2.2.2.2.1):g98 (d+2) u y=some (smB u y):=by
 obtain ⟨z1,z2,z3,z4,z5,z6,z7,z8⟩:=h
 rw [e98,bl_eq,decide_eq_true (by rw [hn]),Bool.not_true,oif_f]
 unfold j98_2 smB
 by_cases hc:u.2.1.length=y.2.1.length
 case neg=>rw [show ((((u.2.1.length:Nat):Int)) != ((y.2.1.length:Nat):Int))=true by simp;omega,oif_t,oif_t,decide_eq_false (fun e=>hc (by rw [e]))];rfl
 rw [show ((((u.2.1.length:Nat):Int)) != ((y.2.1.length:Nat):Int))=false by simp;omega,oif_f,show ((((u.2.2.2.2.2.2.1.length:Nat):Int)) != ((y.2.2.2.2.2.2.1.length:Nat):Int))=false by rw [hf];simp,oif_f]
 by_cases hd:u.2.2.2.2.2.2.2.2=y.2.2.2.2.2.2.2.2
 case neg=>rw [show (u.2.2.2.2.2.2.2.2 != y.2.2.2.2.2.2.2.2)=true by simp [hd],oif_t,show (u.2.2.2.2.2.2.2.2==y.2.2.2.2.2.2.2.2)=false by simp [hd]];simp
 rw [show (u.2.2.2.2.2.2.2.2 != y.2.2.2.2.2.2.2.2)=false by simp [hd],oif_f,show (u.2.2.2.2.2.2.2.2==y.2.2.2.2.2.2.2.2)=true by simp [hd],Bool.and_true]
 refine (range_eq (fun (t:Bool) (i:Int)=>(t,i)) u.2.1 (fun z i t k=>oif (decide (([]++y.2.1)[i]? = some z)) (k t) (some false)) (fun t=>j98_1 (d+1) u y t) ?_ ?_ (by rw [fuelN_eq];omega) false).trans ?_
 ·intro ag t i x hx;have hi:=(List.getElem?_eq_some_iff.1 hx).1;simp only [l98_0,l98_0_b,ltl hx,nn,ofNat_toNat,hx,ob_s,oif_t];rw [wr1 (by omega)]
  have hb:i < y.2.1.length:=by omega
  rw [List.nil_append,List.getElem?_eq_getElem hb,ob_s,cl_beq]
  by_cases hxy:x=y.2.1[i]
  ·rw [decide_eq_true hxy,Bool.not_true,oif_f,decide_eq_true (by rw [hxy]),oif_t]
  ·rw [decide_eq_false hxy,Bool.not_false,oif_t,decide_eq_false (show ¬ some y.2.1[i]=some x by simp;exact fun e=>hxy e.symm),oif_f]
 ·intro ag t;simp only [l98_0,l98_0_b,ltn,oif_f]
 ·rw [rangeR_allI,all_same (i:=0) (c:=[]) rfl hc]
  cases decide (u.2.1=y.2.1) with
  | false=>rfl
  | true =>
  rw [oif_t,Bool.true_and]
  unfold j98_1
  have hfl:u.2.2.2.2.2.2.1.length=y.2.2.2.2.2.2.1.length:=by rw [hf]
  refine (range_eq (fun (t:Bool) (i:Int)=>(t,i)) u.2.2.2.2.2.2.1 (fun z i t k=>oif (decide (([]++y.2.2.2.2.2.2.1)[i]? = some z)) (k t) (some false)) (fun t=>j98_0 (d+1) u y t) ?_ ?_ (by rw [fuelN_eq];omega) false).trans ?_
  ·intro ag t i x hx;have hi:=(List.getElem?_eq_some_iff.1 hx).1;simp only [l98_1,l98_1_b,ltl hx,nn,ofNat_toNat,hx,ob_s,oif_t];rw [wr1 (by omega)]
   have hb:i < y.2.2.2.2.2.2.1.length:=by omega
   rw [List.nil_append,List.getElem?_eq_getElem hb,ob_s,fl_beq]
   by_cases hxy:x=y.2.2.2.2.2.2.1[i]
   ·rw [decide_eq_true hxy,Bool.not_true,oif_f,decide_eq_true (by rw [hxy]),oif_t]
   ·rw [decide_eq_false hxy,Bool.not_false,oif_t,decide_eq_false (show ¬ some y.2.2.2.2.2.2.1[i]=some x by simp;exact fun e=>hxy e.symm),oif_f]
  ·intro ag t;simp only [l98_1,l98_1_b,ltn,oif_f]
  ·rw [rangeR_allI,all_same (i:=0) (c:=[]) rfl hfl,decide_eq_true hf,oif_t]
   unfold j98_0
   rw [q_l1Same (by omega),ob_s]
   cases decide (u.2.2.1=y.2.2.1) with
   | false=>rfl
   | true =>
   rw [oif_t,q_l1Same (by omega),ob_s]
   cases decide (u.2.2.2.1=y.2.2.2.1) with
   | false=>rfl
   | true =>
   rw [oif_t,q_l1Same (by omega),ob_s]
   cases decide (u.2.2.2.2.1=y.2.2.2.2.1) with
   | false=>rfl
   | true =>
   rw [oif_t,q_l1Same (by omega),ob_s]
   cases decide (u.2.2.2.2.2.1=y.2.2.2.2.2.1) with
   | false=>rfl
   | true=>rw [oif_t,q_l1Same (by omega),ob_s];rfl
theorem q_loGood {d:Nat} {x:Ld} (h:ldSz x):g71 (d+11) x=some (lgB x):=by
 have h':=h
 obtain ⟨z1,z2,z3,z4,z5,z6,z7,z8⟩:=h
 rw [e71]
 unfold j71_0 lgB
 by_cases h1:x.2.1.length≤24
 case neg=>rw [decide_eq_true (show ((x.2.1.length:Nat):Int) > 24 by omega),oif_t,oif_t,decide_eq_false (fun h=>h1 h.1)];rfl
 rw [decide_eq_false (show ¬ ((x.2.1.length:Nat):Int) > 24 by omega),oif_f]
 by_cases h2:x.2.2.2.2.2.2.1.length≤16
 case neg=>rw [decide_eq_true (show ((x.2.2.2.2.2.2.1.length:Nat):Int) > 16 by omega),oif_t,decide_eq_false (fun h=>h2 h.2)];rfl
 rw [decide_eq_false (show ¬ ((x.2.2.2.2.2.2.1.length:Nat):Int) > 16 by omega),oif_f,decide_eq_true ⟨h1,h2⟩,Bool.true_and]
 rw [show d+10=(d+8)+2 by omega,q_loBack (by omega) (by omega),ob_s,show d+8+2=(d+5)+5 by omega,q_cfGood (c:=unV x) z1 (show x.2.2.2.2.2.2.1.length < 4000000 by omega),ob_s]
 cases hg:gdB (unV x) with
 | false=>rfl
 | true=>rw [oif_t,show d+5+5=d+10 by omega,q_loLoad (gd_of hg),ob_s,show d+10=(d+8)+2 by omega,q_loSame (y:=ldV (unV x)) h' rfl rfl,ob_s,Bool.true_and]
theorem set_next {α:Type} {l:List α} {z x:α} {k:Nat} (hx:l[k]? = some x):(l.take k++List.replicate (l.length - k) z).set k x=l.take (k+1)++List.replicate (l.length - (k+1)) z:=by
 have hk:=(List.getElem?_eq_some_iff.1 hx).1
 have e:=(List.getElem?_eq_some_iff.1 hx).2
 have hl:(l.take k).length=k:=by rw [List.length_take];omega
 rw [List.set_append_right _ _ (by omega),hl,Nat.sub_self,show l.length - k=(l.length - (k+1))+1 by omega,List.replicate_succ,List.set_cons_zero,List.take_succ_eq_append_getElem hk,e]
 simp
theorem q_toClassS {d:Nat} {l:List Cl8} (hl:l.length≤1048576):g46 (d+2) l=some l:=by
 rw [e46,nn,oif_t,oif_t,ofNat_toNat,show (Nat.ble l.length l.length&&Nat.ble (l.length*64) roomMax)=true by rw [Bool.and_eq_true,Nat.ble_eq,Nat.ble_eq];unfold roomMax;omega,oif_t]
 refine Ok.val (iter_ok (fun j (s:Int×List Cl8)=>∃ k:Nat,k+j=l.length∧s.1=(k:Int)∧s.2=l.take k++List.replicate (l.length - k) ((0,0,0,0,0,0,0,0):Cl8)) ?_ _ l.length _ (by rw [fuelN_eq];omega) ⟨0,by omega,rfl,by simp⟩)
 rintro j ⟨n,r⟩ ag ⟨k,hk,h1,h2⟩ hag
 simp only at h1 h2
 subst h1
 have hrl:r.length=l.length:=by rw [h2];simp;omega
 simp only [l46_0,l46_0_b]
 rcases Nat.lt_or_ge k l.length with hlt | hge
 ·have hx:=List.getElem?_eq_getElem hlt
  rw [ltl hx,oif_t,nn,oif_t,ofNat_toNat,hx,ob_s,e75,ob_s,oif_t,blt_of (by omega),oif_t,List.getElem?_eq_getElem (by omega),ob_s,wr1 (by omega)]
  exact hag (j - 1) _ (by omega) ⟨k+1,by omega,rfl,by rw [h2];exact set_next hx⟩
 ·have:k=l.length:=by omega
  subst this
  rw [ltn,oif_f]
  unfold j46_0
  exact Ok.some (by rw [h2];simp)
theorem q_toFilterS {d:Nat} {l:List Fl5} (hl:l.length≤1048576):g48 (d+2) l=some l:=by
 rw [e48,nn,oif_t,oif_t,ofNat_toNat,show (Nat.ble l.length l.length&&Nat.ble (l.length*40) roomMax)=true by rw [Bool.and_eq_true,Nat.ble_eq,Nat.ble_eq];unfold roomMax;omega,oif_t]
 refine Ok.val (iter_ok (fun j (s:Int×List Fl5)=>∃ k:Nat,k+j=l.length∧s.1=(k:Int)∧s.2=l.take k++List.replicate (l.length - k) ((0,0,0,0,0):Fl5)) ?_ _ l.length _ (by rw [fuelN_eq];omega) ⟨0,by omega,rfl,by simp⟩)
 rintro j ⟨n,r⟩ ag ⟨k,hk,h1,h2⟩ hag
 simp only at h1 h2
 subst h1
 have hrl:r.length=l.length:=by rw [h2];simp;omega
 simp only [l48_0,l48_0_b]
 rcases Nat.lt_or_ge k l.length with hlt | hge
 ·have hx:=List.getElem?_eq_getElem hlt
  rw [ltl hx,oif_t,nn,oif_t,ofNat_toNat,hx,ob_s,e76,ob_s,oif_t,blt_of (by omega),oif_t,List.getElem?_eq_getElem (by omega),ob_s,wr1 (by omega)]
  exact hag (j - 1) _ (by omega) ⟨k+1,by omega,rfl,by rw [h2];exact set_next hx⟩
 ·have:k=l.length:=by omega
  subst this
  rw [ltn,oif_f]
  unfold j48_0
  exact Ok.some (by rw [h2];simp)
theorem q_toIntS {d:Nat} {l:List Int} (hl:l.length≤1048576):g47 (d+1) l=some l:=by
 rw [e47,nn,oif_t,oif_t,ofNat_toNat,show (Nat.ble l.length l.length&&Nat.ble (l.length*8) roomMax)=true by rw [Bool.and_eq_true,Nat.ble_eq,Nat.ble_eq];unfold roomMax;omega,oif_t]
 refine Ok.val (iter_ok (fun j (s:Int×List Int)=>∃ k:Nat,k+j=l.length∧s.1=(k:Int)∧s.2=l.take k++List.replicate (l.length - k) (0:Int)) ?_ _ l.length _ (by rw [fuelN_eq];omega) ⟨0,by omega,rfl,by simp⟩)
 rintro j ⟨n,r⟩ ag ⟨k,hk,h1,h2⟩ hag
 simp only at h1 h2
 subst h1
 have hrl:r.length=l.length:=by rw [h2];simp;omega
 simp only [l47_0,l47_0_b]
 rcases Nat.lt_or_ge k l.length with hlt | hge
 ·have hx:=List.getElem?_eq_getElem hlt
  rw [ltl hx,oif_t,nn,oif_t,ofNat_toNat,hx,ob_s,oif_t,blt_of (by omega),oif_t,List.getElem?_eq_getElem (by omega),ob_s,wr1 (by omega)]
  exact hag (j - 1) _ (by omega) ⟨k+1,by omega,rfl,by rw [h2];exact set_next hx⟩
 ·have:k=l.length:=by omega
  subst this
  rw [ltn,oif_f]
  unfold j47_0
  exact Ok.some (by rw [h2];simp)
def szQ (n:Int) (k:Nat) (r:Int):Prop:=r < 0∨(0≤r∧r≤n∧(k:Int)≤n)
theorem p_szClassS {d:Nat} {l:List Cl8} {n:Int} (h0:0≤n) (h1:n≤1048576) (hl:l.length≤9223372036854775807):Ok (g37 (d+1) l n) fun r=>szQ n l.length r:=by
 rw [e37,wr (by omega) (by omega)]
 by_cases h:n - ((l.length:Nat):Int) < 0
 ·rw [decide_eq_true h,oif_t];exact Ok.some (Or.inl (by omega))
 ·rw [decide_eq_false h,oif_f];exact Ok.some (Or.inr ⟨by omega,by omega,by omega⟩)
theorem p_szFilterS {d:Nat} {l:List Fl5} {n:Int} (h0:0≤n) (h1:n≤1048576) (hl:l.length≤9223372036854775807):Ok (g39 (d+1) l n) fun r=>szQ n l.length r:=by
 rw [e39,wr (by omega) (by omega)]
 by_cases h:n - ((l.length:Nat):Int) < 0
 ·rw [decide_eq_true h,oif_t];exact Ok.some (Or.inl (by omega))
 ·rw [decide_eq_false h,oif_f];exact Ok.some (Or.inr ⟨by omega,by omega,by omega⟩)
theorem p_szIntS {d:Nat} {l:List Int} {n:Int} (h0:0≤n) (h1:n≤1048576) (hl:l.length≤9223372036854775807):Ok (g38 (d+1) l n) fun r=>szQ n l.length r:=by
 rw [e38,wr (by omega) (by omega)]
 by_cases h:n - ((l.length:Nat):Int) < 0
 ·rw [decide_eq_true h,oif_t];exact Ok.some (Or.inl (by omega))
 ·rw [decide_eq_false h,oif_f];exact Ok.some (Or.inr ⟨by omega,by omega,by omega⟩)
theorem q_eqClassS {d:Nat} {l:List Cl8} (hl:l.length≤2000000):g59 (d+2) l l=some true:=by
 rw [e59,bne_self_eq_false,oif_f]
 refine (range_eq (fun (t:Bool) (i:Int)=>(t,i)) l (fun x i t k=>k t) (j59_0 (d+1)) ?_ ?_ (by rw [fuelN_eq];omega) false).trans ?_
 ·intro ag t i x hx;have hi:=(List.getElem?_eq_some_iff.1 hx).1;simp only [l59_0,l59_0_b,ltl hx,nn,ofNat_toNat,hx,ob_s,oif_t]
  rw [e89]
  simp only [bne_self_eq_false,oif_f,Bool.not_true,ob_s]
  rw [wr1 (by omega)]
 ·intro ag t;simp only [l59_0,l59_0_b,ltn,oif_f]
 ·rw [rangeR_fold (f:=fun _ _ t=>t)];rfl
theorem q_eqFilterS {d:Nat} {l:List Fl5} (hl:l.length≤2000000):g61 (d+2) l l=some true:=by
 rw [e61,bne_self_eq_false,oif_f]
 refine (range_eq (fun (t:Bool) (i:Int)=>(t,i)) l (fun x i t k=>k t) (j61_0 (d+1)) ?_ ?_ (by rw [fuelN_eq];omega) false).trans ?_
 ·intro ag t i x hx;have hi:=(List.getElem?_eq_some_iff.1 hx).1;simp only [l61_0,l61_0_b,ltl hx,nn,ofNat_toNat,hx,ob_s,oif_t]
  rw [e90]
  simp only [bne_self_eq_false,oif_f,Bool.not_true,ob_s]
  rw [wr1 (by omega)]
 ·intro ag t;simp only [l61_0,l61_0_b,ltn,oif_f]
 ·rw [rangeR_fold (f:=fun _ _ t=>t)];rfl
theorem q_eqIntS {d:Nat} {l:List Int} (hl:l.length≤2000000):g60 (d+1) l l=some true:=by
 rw [e60,bne_self_eq_false,oif_f]
 refine (range_eq (fun (t:Bool) (i:Int)=>(t,i)) l (fun x i t k=>k t) (j60_0 d) ?_ ?_ (by rw [fuelN_eq];omega) false).trans ?_
 ·intro ag t i x hx;have hi:=(List.getElem?_eq_some_iff.1 hx).1;simp only [l60_0,l60_0_b,ltl hx,nn,ofNat_toNat,hx,ob_s,oif_t]
  simp only [bne_self_eq_false,oif_f]
  rw [wr1 (by omega)]
 ·intro ag t;simp only [l60_0,l60_0_b,ltn,oif_f]
 ·rw [rangeR_fold (f:=fun _ _ t=>t)];rfl
def ldL (x:Ld):Prop:=x.1.size≤1048576∧x.2.1.length≤1048576∧x.2.2.1.length≤1048576∧x.2.2.2.1.length≤1048576∧x.2.2.2.2.1.length≤1048576∧x.2.2.2.2.2.1.length≤1048576∧x.2.2.2.2.2.2.1.length≤1048576∧x.2.2.2.2.2.2.2.1.length≤1048576
theorem q_eqLoaded {d:Nat} {x:Ld} (h:ldL x):g29 (d+3) x x=some true:=by
 obtain ⟨z1,z2,z3,z4,z5,z6,z7,z8⟩:=h
 rw [e29,beq_self_eq_true,Bool.not_true,oif_f,q_eqClassS (by omega),ob_s,Bool.not_true,oif_f,q_eqIntS (by omega),ob_s,Bool.not_true,oif_f,q_eqIntS (by omega),ob_s,Bool.not_true,oif_f,q_eqIntS (by omega),ob_s,Bool.not_true,oif_f,q_eqIntS (by omega),ob_s,Bool.not_true,oif_f,q_eqFilterS (by omega),ob_s,Bool.not_true,oif_f,q_eqIntS (by omega),ob_s,Bool.not_true,oif_f,bne_self_eq_false,oif_f]
theorem q_toLoaded {d:Nat} {x:Ld} (h:ldL x):g19 (d+3) x=some x:=by
 obtain ⟨z1,z2,z3,z4,z5,z6,z7,z8⟩:=h
 rw [e19,q_toClassS z2,ob_s,q_toIntS z3,ob_s,q_toIntS z4,ob_s,q_toIntS z5,ob_s,q_toIntS z6,ob_s,q_toFilterS z7,ob_s,q_toIntS z8,ob_s]
def ldW (x:Ld):Prop:=x.1.size≤9223372036854775807∧x.2.1.length≤9223372036854775807∧x.2.2.1.length≤9223372036854775807∧x.2.2.2.1.length≤9223372036854775807∧x.2.2.2.2.1.length≤9223372036854775807∧x.2.2.2.2.2.1.length≤9223372036854775807∧x.2.2.2.2.2.2.1.length≤9223372036854775807∧x.2.2.2.2.2.2.2.1.length≤9223372036854775807
theorem p_szLoaded {d:Nat} {x:Ld} {n:Int} (h0:0≤n) (h1:n≤1048576) (h:ldW x):Ok (g15 (d+2) x n) fun r=>r < 0∨(0≤r∧r≤n∧ldL x):=by
 obtain ⟨z1,z2,z3,z4,z5,z6,z7,z8⟩:=h
 have no:Ok (some (-1:Int)) fun r=>r < 0∨(0≤r∧r≤n∧ldL x):=Ok.some (Or.inl (by omega))
 rw [e15,wr (by omega) (by omega)]
 refine Ok.oif (fun _=>no) (fun hs=>?_)
 simp only [decide_eq_false_iff_not] at hs
 refine Ok.bind (p_szClassS (by omega) (by omega) z2) fun r3 g3=>?_
 refine Ok.oif (fun _=>no) (fun hs3=>?_)
 simp only [decide_eq_false_iff_not] at hs3
 have g3:=g3.resolve_left hs3
 refine Ok.bind (p_szIntS (by omega) (by omega) z3) fun r4 g4=>?_
 refine Ok.oif (fun _=>no) (fun hs4=>?_)
 simp only [decide_eq_false_iff_not] at hs4
 have g4:=g4.resolve_left hs4
 refine Ok.bind (p_szIntS (by omega) (by omega) z4) fun r5 g5=>?_
 refine Ok.oif (fun _=>no) (fun hs5=>?_)
 simp only [decide_eq_false_iff_not] at hs5
 have g5:=g5.resolve_left hs5
 refine Ok.bind (p_szIntS (by omega) (by omega) z5) fun r6 g6=>?_
 refine Ok.oif (fun _=>no) (fun hs6=>?_)
 simp only [decide_eq_false_iff_not] at hs6
 have g6:=g6.resolve_left hs6
 refine Ok.bind (p_szIntS (by omega) (by omega) z6) fun r7 g7=>?_
 refine Ok.oif (fun _=>no) (fun hs7=>?_)
 simp only [decide_eq_false_iff_not] at hs7
 have g7:=g7.resolve_left hs7
 refine Ok.bind (p_szFilterS (by omega) (by omega) z7) fun r8 g8=>?_
 refine Ok.oif (fun _=>no) (fun hs8=>?_)
 simp only [decide_eq_false_iff_not] at hs8
 have g8:=g8.resolve_left hs8
 refine Ok.bind (p_szIntS (by omega) (by omega) z8) fun r9 g9=>?_
 refine Ok.oif (fun _=>no) (fun hs9=>?_)
 simp only [decide_eq_false_iff_not] at hs9
 have g9:=g9.resolve_left hs9
 exact Ok.some (Or.inr ⟨by omega,by omega,by omega,by omega,by omega,by omega,by omega,by omega,by omega,by omega⟩)
theorem ldL.sz {x:Ld} (h:ldL x):ldSz x:=by
 obtain ⟨z1,z2,z3,z4,z5,z6,z7,z8⟩:=h
 exact ⟨by omega,by omega,by omega,by omega,by omega,by omega,by omega,by omega⟩
def mIs:Nat→Nat→List Int
 | _,0=>[]
 | k,n+1=>(k:Int)::mIs (k+1) n
def mkT (k:Nat) (t:Tk):Tk:=(mIs k t.1.length,mIs (k+t.1.length) t.2.length)
theorem q_eqTokens {d:Nat} {t:Tk} (h1:t.1.length≤2000000) (h2:t.2.length≤2000000):g30 (d+2) t t=some true:=by
 rw [e30,q_eqIntS h1,ob_s,Bool.not_true,oif_f,q_eqIntS h2,ob_s,Bool.not_true,oif_f]
theorem q_toTokens {d:Nat} {t:Tk} (h1:t.1.length≤1048576) (h2:t.2.length≤1048576):g20 (d+2) t=some t:=by
 rw [e20,q_toIntS h1,ob_s,q_toIntS h2,ob_s]
theorem p_szTokens {d:Nat} {t:Tk} {n:Int} (h0:0≤n) (h1:n≤1048576) (z1:t.1.length≤9223372036854775807) (z2:t.2.length≤9223372036854775807):Ok (g16 (d+2) t n) fun r=>r < 0∨(0≤r∧r≤n∧t.1.length≤1048576∧t.2.length≤1048576):=by
 have no:Ok (some (-1:Int)) fun r=>r < 0∨(0≤r∧r≤n∧t.1.length≤1048576∧t.2.length≤1048576):=Ok.some (Or.inl (by omega))
 rw [e16]
 refine Ok.bind (p_szIntS (by omega) (by omega) z1) fun r3 g3=>?_
 refine Ok.oif (fun _=>no) (fun hs3=>?_)
 simp only [decide_eq_false_iff_not] at hs3
 have g3:=g3.resolve_left hs3
 refine Ok.bind (p_szIntS (by omega) (by omega) z2) fun r4 g4=>?_
 refine Ok.oif (fun _=>no) (fun hs4=>?_)
 simp only [decide_eq_false_iff_not] at hs4
 have g4:=g4.resolve_left hs4
 exact Ok.some (Or.inr ⟨by omega,by omega,by omega,by omega⟩)
theorem getD_get {l:List Int} {i:Nat} {z:Int} (h:i < l.length):l[i]? = some (l.getD i z):=by
 rw [List.getD_eq_getElem?_getD,List.getElem?_eq_getElem h];rfl
def tkO (t:Tk) (c:Cl8) (i:Nat):Bool:=decide (0≤t.1.getD i 0∧t.1.getD i 0≤c.2.2.2.2.1)&&decide (0≤t.2.getD i 0∧t.2.getD i 0≤c.2.2.2.2.2.1)
def tkB (x:Ld) (t:Tk):Bool:=decide (t.1.length=x.2.1.length∧t.2.length=x.2.1.length)&&allI (tkO t) x.2.1 0
theorem q_areTokens17 {d:Nat} {x:Ld} {t:Tk} (hl:x.2.1.length≤1000):g23 (d+1) x t=some (tkB x t):=by
 rw [e23]
 unfold j23_2 tkB
 by_cases h1:t.1.length=x.2.1.length
 case neg=>rw [show ((((t.1.length:Nat):Int)) != ((x.2.1.length:Nat):Int))=true by simp;omega,oif_t,oif_t,decide_eq_false (fun h=>h1 h.1)];rfl
 by_cases h2:t.2.length=x.2.1.length
 case neg=>rw [show ((((t.1.length:Nat):Int)) != ((x.2.1.length:Nat):Int))=false by simp;omega,oif_f,show ((((t.2.length:Nat):Int)) != ((x.2.1.length:Nat):Int))=true by simp;omega,oif_t,decide_eq_false (fun h=>h2 h.2)];rfl
 rw [show ((((t.1.length:Nat):Int)) != ((x.2.1.length:Nat):Int))=false by simp;omega,oif_f,show ((((t.2.length:Nat):Int)) != ((x.2.1.length:Nat):Int))=false by simp;omega,oif_f,decide_eq_true ⟨h1,h2⟩,Bool.true_and]
 refine (range_eq (fun (t:Bool) (i:Int)=>(t,i)) x.2.1 (fun c i b k=>oif (tkO t c i) (k b) (some false)) (fun _=>some true) ?_ ?_ (by rw [fuelN_eq];omega) false).trans ?_
 ·intro ag b i c hx
  have hi:=(List.getElem?_eq_some_iff.1 hx).1
  simp only [l23_0,l23_0_b,ltl hx,nn,ofNat_toNat,hx,ob_s,oif_t]
  rw [getD_get (l:=t.1) (z:=0) (by omega),getD_get (l:=t.2) (z:=0) (by omega)]
  simp only [ob_s]
  unfold j23_1
  by_cases a1:t.1.getD i 0 < 0
  ·rw [decide_eq_true a1,oif_t,oif_t,show tkO t c i=false by unfold tkO;rw [decide_eq_false (by omega),Bool.false_and],oif_f]
  by_cases a2:t.1.getD i 0 > c.2.2.2.2.1
  ·rw [decide_eq_false a1,oif_f,decide_eq_true a2,oif_t,oif_t,show tkO t c i=false by unfold tkO;rw [decide_eq_false (by omega),Bool.false_and],oif_f]
  by_cases a3:t.2.getD i 0 < 0
  ·rw [decide_eq_false a1,oif_f,decide_eq_false a2,oif_f,decide_eq_true a3,oif_t,oif_t,show tkO t c i=false by unfold tkO;rw [Bool.and_comm,decide_eq_false (by omega),Bool.false_and],oif_f]
  by_cases a4:t.2.getD i 0 > c.2.2.2.2.2.1
  ·rw [decide_eq_false a1,oif_f,decide_eq_false a2,oif_f,decide_eq_false a3,oif_f,decide_eq_true a4,oif_t,show tkO t c i=false by unfold tkO;rw [Bool.and_comm,decide_eq_false (by omega),Bool.false_and],oif_f]
  ·rw [decide_eq_false a1,oif_f,decide_eq_false a2,oif_f,decide_eq_false a3,oif_f,decide_eq_false a4,oif_f,show tkO t c i=true by unfold tkO;rw [decide_eq_true (by omega),decide_eq_true (by omega)];rfl,oif_t,wr1 (by omega)]
 ·intro ag t;simp only [l23_0,l23_0_b,ltn,oif_f];rfl
 ·rw [rangeR_allI];cases allI (tkO t) x.2.1 0<;>rfl
theorem q_htTokens {d:Nat} {x:Ld} {t:Tk} (hl:x.2.1.length≤1000):g72 (d+2) x t=some (tkB x t):=by
 rw [e72]
 unfold j72_1 tkB
 by_cases h1:t.1.length=x.2.1.length
 case neg=>rw [show ((((t.1.length:Nat):Int)) != ((x.2.1.length:Nat):Int))=true by simp;omega,oif_t,oif_t,decide_eq_false (fun h=>h1 h.1)];rfl
 by_cases h2:t.2.length=x.2.1.length
 case neg=>rw [show ((((t.1.length:Nat):Int)) != ((x.2.1.length:Nat):Int))=false by simp;omega,oif_f,show ((((t.2.length:Nat):Int)) != ((x.2.1.length:Nat):Int))=true by simp;omega,oif_t,decide_eq_false (fun h=>h2 h.2)];rfl
 rw [show ((((t.1.length:Nat):Int)) != ((x.2.1.length:Nat):Int))=false by simp;omega,oif_f,show ((((t.2.length:Nat):Int)) != ((x.2.1.length:Nat):Int))=false by simp;omega,oif_f,decide_eq_true ⟨h1,h2⟩,Bool.true_and]
 refine (range_eq (fun (t:Bool) (i:Int)=>(t,i)) x.2.1 (fun c i b k=>oif (tkO t c i) (k b) (some false)) (fun _=>some true) ?_ ?_ (by rw [fuelN_eq];omega) false).trans ?_
 ·intro ag b i c hx
  have hi:=(List.getElem?_eq_some_iff.1 hx).1
  simp only [l72_0,l72_0_b,ltl hx,nn,ofNat_toNat,hx,ob_s,oif_t]
  rw [getD_get (l:=t.1) (z:=0) (by omega),getD_get (l:=t.2) (z:=0) (by omega),ob_s,ob_s,q_l1In,ob_s,q_l1In,ob_s,wr1 (by omega)]
  unfold tkO
  cases decide (0≤t.1.getD i 0∧t.1.getD i 0≤c.2.2.2.2.1) with
  | false=>rfl
  | true=>cases decide (0≤t.2.getD i 0∧t.2.getD i 0≤c.2.2.2.2.2.1)<;>rfl
 ·intro ag t;simp only [l72_0,l72_0_b,ltn,oif_f];rfl
 ·rw [rangeR_allI];cases allI (tkO t) x.2.1 0<;>rfl
theorem lg_len {x:Ld} (h:lgB x=true):x.2.1.length≤24:=by
 unfold lgB at h
 simp only [Bool.and_eq_true,decide_eq_true_eq] at h
 exact h.1.1
theorem q_htGood {d:Nat} {x:Ld} {t:Tk} (h:ldSz x):g41 (d+12) x t=some (lgB x&&tkB x t):=by
 rw [e41,q_loGood h,ob_s]
 cases hg:lgB x with
 | false=>rfl
 | true =>
  have:=lg_len hg
  rw [oif_t,show d+11=d+9+2 by omega,q_htTokens (by omega),ob_s,Bool.true_and]
def lvV (F:List Int):List Int:=selI (fun f _=>decide (f < 0)) (fun _ k=>((k:Nat):Int)) F 0
theorem lvV_len {F:List Int}:(lvV F).length≤F.length:=selI_len _ _
theorem q_leavesAt {d:Nat} {x:Ld} (hl:x.2.1.length≤1000) (hE:x.2.2.2.1.length=x.2.1.length):g24 (d+1) x=some (lvV x.2.2.2.1):=by
 rw [e24]
 refine (range_eq (fun (t:List Int) (i:Int)=>(t,i)) x.2.2.2.1 (fun f i t k=>oif (decide (f < 0)) (oif (Nat.ble ((t.length+[((i:Nat):Int)].length)*8) roomMax) (k (t++[((i:Nat):Int)])) none) (k t)) (fun t=>some t) ?_ ?_ (by rw [fuelN_eq];omega) []).trans ?_
 ·intro ag t i f hx
  have hi:=(List.getElem?_eq_some_iff.1 hx).1
  simp only [l24_0,l24_0_b,← hE,ltl hx,nn,ofNat_toNat,hx,ob_s,oif_t]
  rw [wr1 (by omega)]
 ·intro ag t;simp only [l24_0,l24_0_b,← hE,ltn,oif_f];rfl
 ·rw [rangeR_sel (c:=fun f _=>decide (f < 0)) (e:=fun (_:Int) (k:Nat)=>((k:Nat):Int)) (w:=8) x.2.2.2.1 0 [] (by simp;omega)]
  rfl
theorem q_loLeaf {d k:Nat} {x:Ld} {f:Int} (h:x.2.2.2.1[k]? = some f):g69 (d+1) x ((k:Nat):Int)=some (decide (f < 0)):=by
 rw [e69,nn,oif_t,ofNat_toNat,h,ob_s]
theorem q_loLeaves {d:Nat} {x:Ld} (hl:x.2.1.length≤1000) (hE:x.2.2.2.1.length=x.2.1.length):g35 (d+2) x=some (lvV x.2.2.2.1):=by
 rw [e35]
 refine (range_eq (fun (t:List Int) (i:Int)=>(t,i)) x.2.2.2.1 (fun f i t k=>oif (decide (f < 0)) (oif (Nat.ble ((t.length+[((i:Nat):Int)].length)*8) roomMax) (k (t++[((i:Nat):Int)])) none) (k t)) (fun t=>some t) ?_ ?_ (by rw [fuelN_eq];omega) []).trans ?_
 ·intro ag t i f hx
  have hi:=(List.getElem?_eq_some_iff.1 hx).1
  simp only [l35_0,l35_0_b,← hE,ltl hx,oif_t]
  rw [q_loLeaf hx,ob_s,wr1 (by omega)]
 ·intro ag t;simp only [l35_0,l35_0_b,← hE,ltn,oif_f];rfl
 ·rw [rangeR_sel (c:=fun f _=>decide (f < 0)) (e:=fun (_:Int) (k:Nat)=>((k:Nat):Int)) (w:=8) x.2.2.2.1 0 [] (by simp;omega)]
  rfl
theorem par_before {l:List Cl8} (T:Tr l) {i:Int} (hi:vI l i) (hp:0≤parI l i):pW l (parI l i) < pW l i:=by
 have hv:=par_v (l:=l) (i:=i) hp
 obtain ⟨A,B,e⟩:=wlk_part T _ (parI l i) (Nat.le_refl _) hv
 rw [sub_eq T hv] at e
 have hm:i∈(kdI l (parI l i)).flatMap (subI l):=List.mem_flatMap.2 ⟨i,(kd_mem T hv).2 ⟨hi,rfl⟩,by rw [sub_eq T hi];simp⟩
 obtain ⟨m,hm⟩:=List.getElem?_of_mem hm
 have hlt:=(List.getElem?_eq_some_iff.1 hm).1
 have h1:(wlk l)[A.length]? = some (parI l i):=by rw [e];simp
 have h2:(wlk l)[A.length+1+m]? = some i:=by
  rw [e,List.append_assoc,List.getElem?_append_right (by omega),show A.length+1+m - A.length=m+1 by omega,List.cons_append,List.getElem?_cons_succ,List.getElem?_append_left hlt,hm]
 unfold pW
 rw [pos_of (wlk_nodup T) h1,pos_of (wlk_nodup T) h2]
 omega
structure Lk (x:Ld):Prop where
 n24:x.2.1.length≤24
 pl:x.2.2.1.length=x.2.1.length
 fl:x.2.2.2.1.length=x.2.1.length
 pd:∀ (k:Nat) (p:Int),x.2.2.1[k]? = some p→p < (k:Int)
 bur:∀ c∈x.2.1,c.2.2.2.2.1≤1000000∧c.2.2.2.2.2.1≤1000000
theorem lk_of {x:Ld} (h:lgB x=true):Lk x:=by
 have h24:=lg_len h
 unfold lgB smB at h
 simp only [Bool.and_eq_true,decide_eq_true_eq] at h
 obtain ⟨_,hg,s1,s2,s3,_⟩:=h
 have G:=gd_of hg
 have T:=G.tr
 have e1:x.2.1.length=(wlk (unV x).2.1).length:=by rw [s1];show ((wlk (unV x).2.1).map _).length=_;rw [List.length_map]
 refine ⟨h24,?_,?_,?_,?_⟩
 ·rw [e1,s2];show ((wlk (unV x).2.1).map _).length=_;rw [List.length_map]
 ·rw [e1,s3];show ((wlk (unV x).2.1).map _).length=_;rw [List.length_map]
 ·intro k p hp
  rw [s2] at hp
  have hp':((wlk (unV x).2.1).map fun i=>pW (unV x).2.1 (parI (unV x).2.1 i))[k]? = some p:=hp
  rw [List.getElem?_map] at hp'
  obtain ⟨i,hi,rfl⟩:=Option.map_eq_some_iff.1 hp'
  have hv:=(wlk_mem T).1 (List.mem_of_getElem? hi)
  have hk:pW (unV x).2.1 i=(k:Int):=pos_of (wlk_nodup T) hi
  rcases Int.lt_or_le (parI (unV x).2.1 i) 0 with h0 | h0
  ·rw [pW_no T h0];omega
  ·have:=par_before T hv h0;omega
 ·intro c hc
  have hm:c∈(unV x).2.1:=insV_perm.mem_iff.2 hc
  have:=G.cl
  unfold clsB at this
  simp only [Bool.and_eq_true] at this
  have:=List.all_eq_true.1 this.2.2.2.2.2.2.2.1 c hm
  unfold burB at this
  simp only [decide_eq_true_eq] at this
  omega
abbrev Pk:=Int×Int×Int×Int×Int×Int
def wordOk (n:Int):Bool:=decide (0≤n∧n≤65535)
def pkOk (p:Pk):Bool:=decide (1≤p.1∧p.1≤100000∧0≤p.2.1∧p.2.1≤65535∧0≤p.2.2.1∧p.2.2.1≤65535∧0≤p.2.2.2.1∧p.2.2.2.1≤65535∧0≤p.2.2.2.2.1∧p.2.2.2.2.1≤65535∧1≤p.2.2.2.2.2∧p.2.2.2.2.2≤1500)
theorem q_IsPacket {d:Nat} {x:Pk}:g25 (d+2) x=some (pkOk x):=by
 rw [e25,e55,ob_s]
 refine (range_eq (fun (t:Bool) (i:Int)=>(t,i)) [x.2.1,x.2.2.1,x.2.2.2.1,x.2.2.2.2.1] (fun y _ t k=>oif (wordOk y) (k t) (some false)) (j25_0 (d+1) x) ?_ ?_ (by rw [fuelN_eq];simp) false).trans ?_
 ·intro ag t i y hy
  have hi:i < 4:=by have:=(List.getElem?_eq_some_iff.1 hy).1;simpa using this
  have h4:decide ((i:Int) < 4)=true:=by simp;omega
  simp only [l25_0,l25_0_b,h4,nn,ofNat_toNat,oif_t]
  rw [hy,ob_s,wr1 (by omega)]
  unfold wordOk
  by_cases h1:y < 0
  ·rw [decide_eq_true h1,oif_t,decide_eq_false (by omega),oif_f]
  ·rw [decide_eq_false h1,oif_f]
   by_cases h2:y > 65535
   ·rw [decide_eq_true h2,oif_t,decide_eq_false (by omega),oif_f]
   ·rw [decide_eq_false h2,oif_f,decide_eq_true (by omega),oif_t]
 ·intro ag t;rfl
 ·rw [rangeR_all (p:=wordOk)]
  unfold j25_0
  simp only [oif_ss]
  congr 1
  rw [Bool.eq_iff_iff]
  simp only [List.all_cons,List.all_nil,Bool.and_true,wordOk,pkOk]
  simp
  omega
theorem q_pkWord {d:Nat} {n:Int}:g73 (d+2) n=some (wordOk n):=by
 rw [e73,q_l1In,ob_s];rfl
theorem q_pkGood {d:Nat} {x:Pk}:g43 (d+3) x=some (pkOk x):=by
 rw [e43]
 simp only [q_l1In,q_pkWord,ob_s,oif_ss]
 congr 1
 rw [Bool.eq_iff_iff]
 simp [wordOk,pkOk]
 omega
theorem bleT {a b:Nat} (h:a≤b):Nat.ble a b=true:=by rw [Nat.ble_eq];exact h
def allOkP (l:List Pk):Prop:=∀ p∈l,pkOk p=true
def hasV (l:List Pk) (id:Int):Bool:=l.any fun p=>p.1==id
theorem any_range {β:Type} {id:Int} {yes:Nat→Option β} {fin:Int→Option β} (hy:∀ i j,yes i=yes j):∀ (l:List Pk) (i:Nat) (t:Int),
  rangeR (fun (x:Pk) i (t:Int) k=>oif (x.1==id) (yes i) (k t)) fin l i t=if hasV l id then yes 0 else fin t
 | [],i,t=>by simp [rangeR,hasV]
 | x::r,i,t=>by
  simp only [rangeR]
  cases h:x.1==id with
  | true=>simp only [oif_t,hasV,List.any_cons,h,Bool.true_or,if_true];exact hy i 0
  | false=>simp only [oif_f,hasV,List.any_cons,h,Bool.false_or];exact any_range hy r (i+1) t
theorem q_hasId {d:Nat} {l:List Pk} {id:Int} (hl:l.length < 4194304):g57 (d+4) l id=some (hasV l id):=by
 rw [e57]
 refine (range_eq (fun (t:Int) (i:Int)=>(t,i)) l (fun (x:Pk) i (t:Int) k=>oif (x.1==id) (some true) (k t)) (fun _=>some false) ?_ ?_ (by rw [fuelN_eq];exact hl) 0).trans ?_
 ·intro ag t i x hx
  have hi:=(List.getElem?_eq_some_iff.1 hx).1
  simp only [l57i87i122_0,l57i87i122_0_b,ltl hx,nn,ofNat_toNat,hx,ob_s,oif_t]
  rw [wr1 (by omega)]
  first | done | rfl | simp
 ·intro ag t;simp only [l57i87i122_0,l57i87i122_0_b,ltn,oif_f];rfl
 ·rw [any_range (fun _ _=>rfl)];cases hasV l id<;>rfl
def okI (l:List Pk) (x:Pk) (i:Nat):Bool:=pkOk x && !hasV (l.take i) x.1
def apV (l:List Pk):Bool:=allI (okI l) l 0
theorem ap_suf (l:List Pk):∀ (r pre:List Pk),l=pre++r→(allI (okI l) r pre.length=true↔(∀ x∈r,pkOk x=true)∧(∀ x∈r,∀ y∈pre,y.1≠x.1)∧(r.map fun p=>p.1).Nodup)
 | [],pre,_=>by simp [allI]
 | x::r,pre,h=>by
  have ih:=ap_suf l r (pre++[x]) (by rw [h];simp)
  simp only [List.length_append,List.length_cons,List.length_nil,Nat.zero_add] at ih
  have ht:l.take pre.length=pre:=by rw [h];simp
  simp only [allI,Bool.and_eq_true,ih,okI,ht,Bool.not_eq_true',List.map_cons,List.nodup_cons,List.mem_cons,forall_eq_or_imp,List.mem_append,List.mem_singleton]
  have hh:hasV pre x.1=false↔∀ y∈pre,y.1≠x.1:=by
   unfold hasV;rw [List.any_eq_false];simp
  rw [hh]
  constructor
  ·rintro ⟨⟨a,b⟩,c,e,f⟩
   refine ⟨⟨a,c⟩,⟨b,fun z hz y hy=>e z hz y (.inl hy)⟩,fun hm=>?_,f⟩
   obtain ⟨z,hz,hzx⟩:=List.mem_map.1 hm
   exact e z hz x (.inr (.inl rfl)) hzx.symm
  ·rintro ⟨⟨a,c⟩,⟨b,e⟩,g,f⟩
   refine ⟨⟨a,b⟩,c,fun z hz y hy=>?_,f⟩
   rcases hy with hy | hy | hy
   ·exact e z hz y hy
   ·subst hy;exact fun he=>g (List.mem_map.2 ⟨z,hz,he.symm⟩)
   ·simp at hy
theorem ap_iff (l:List Pk):apV l=true↔allOkP l∧(l.map fun p=>p.1).Nodup:=by
 have:=ap_suf l l [] rfl
 simp only [List.length_nil,List.not_mem_nil,false_imp_iff,implies_true,true_and] at this
 exact this
theorem q_apartIds {d:Nat} {l:List Pk} (hl:l.length < 4194304):g27 (d+5) l=some (apV l):=by
 rw [e27]
 refine (range_eq (fun (t:Bool) (i:Int)=>(t,i)) l (fun x i t k=>oif (okI l x i) (k t) (some false)) (fun _=>some true) ?_ ?_ (by rw [fuelN_eq];exact hl) false).trans ?_
 ·intro ag t i x hx
  have hi:=(List.getElem?_eq_some_iff.1 hx).1
  simp only [l27_0,l27_0_b,ltl hx,nn,ofNat_toNat,hx,ob_s,oif_t,q_IsPacket]
  rw [wr1 (by omega),bleT (show i≤l.length by omega),oif_t,q_hasId (by simp;omega),ob_s]
  unfold okI
  cases pkOk x<;>cases hasV (l.take i) x.1<;>rfl
 ·intro ag t;simp only [l27_0,l27_0_b,ltn,oif_f];rfl
 ·rw [rangeR_allI];unfold apV;cases allI (okI l) l 0<;>rfl
abbrev Rg:=Ld×Tk×List (List Pk)×Int×Int
def rwL (l:List (List Pk)):Prop:=l.length≤1048576∧∀ r∈l,r.length≤1048576
theorem p_szPacketSS {d:Nat} {l:List (List Pk)} {n:Int} (h0:0≤n) (h1:n≤1048576) (hl:l.length≤9223372036854775807) (hr:∀ r∈l,r.length≤9223372036854775807):Ok (g17 (d+2) l n) fun r=>r < 0∨(0≤r∧rwL l):=by
 rw [e17,wr (by omega) (by omega)]
 by_cases h:n - ((l.length:Nat):Int) < 0
 ·rw [decide_eq_true h,oif_t];exact Ok.some (Or.inl (by omega))
 rw [decide_eq_false h,oif_f]
 refine range_ok (fun (t:Int×Int) (i:Int)=>(t.1,t.2,i)) l (fun k t=>(0≤t.1∧t.1≤1048576)∧∀ (j:Nat) r,j < k→l[j]? = some r→r.length≤1048576) ?_ ?_ fuelN 0 (n - ((l.length:Nat):Int),0) (by rw [fuelN_eq];omega) (by omega) ⟨⟨by simp only;omega,by simp only;omega⟩,fun j r hj=>absurd hj (by omega)⟩
 ·rintro ag ⟨a,b⟩ k row hx ⟨⟨a0,a1⟩,hp⟩ hag
  simp only at a0 a1
  have hk:=(List.getElem?_eq_some_iff.1 hx).1
  have hrow:=hr row (List.mem_of_getElem? hx)
  simp only [l17_0,l17_0_b,ltl hx,nn,ofNat_toNat,hx,ob_s,oif_t]
  rw [e40,wr (by omega) (by omega)]
  by_cases h5:a - ((row.length:Nat):Int) < 0
  ·rw [decide_eq_true h5,oif_t,ob_s,decide_eq_true (show (-1:Int) < 0 by omega),oif_t];exact Ok.some (Or.inl (by omega))
  ·rw [decide_eq_false h5,oif_f,ob_s,decide_eq_false h5,oif_f,wr1 (by omega)]
   refine hag (a - ((row.length:Nat):Int),b) ⟨⟨by simp only;omega,by simp only;omega⟩,fun j r hj hg=>?_⟩
   by_cases e:j=k
   ·subst e;rw [hx] at hg;injection hg with hg;subst hg;omega
   ·exact hp j r (by omega) hg
 ·rintro ag ⟨a,b⟩ ⟨⟨a0,a1⟩,hp⟩
  simp only at a0 a1
  simp only [l17_0,l17_0_b,ltn,oif_f]
  refine Ok.some (Or.inr ⟨a0,by omega,fun r hr=>?_⟩)
  obtain ⟨j,hj⟩:=List.getElem?_of_mem hr
  exact hp j r (List.getElem?_eq_some_iff.1 hj).1 hj
def rgL (r:Rg):Prop:=ldL r.1∧r.2.1.1.length≤1048576∧r.2.1.2.length≤1048576∧rwL r.2.2.1
def rgW (r:Rg):Prop:=ldW r.1∧(r.2.1.1.length≤9223372036854775807∧r.2.1.2.length≤9223372036854775807)∧r.2.2.1.length≤9223372036854775807∧∀ q∈r.2.2.1,q.length≤9223372036854775807
theorem p_szRun {d:Nat} {r:Rg} (h:rgW r):Ok (g6 (d+3) r 1048576) fun z=>z < 0∨rgL r:=by
 obtain ⟨z1,z2,z3,z4⟩:=h
 have no:Ok (some (-1:Int)) fun z=>z < 0∨rgL r:=Ok.some (Or.inl (by omega))
 rw [e6]
 refine Ok.bind (p_szLoaded (by omega) (by omega) z1) fun r3 g3=>?_
 refine Ok.oif (fun _=>no) (fun hs3=>?_)
 simp only [decide_eq_false_iff_not] at hs3
 have g3:=g3.resolve_left hs3
 refine Ok.bind (p_szTokens (by omega) (by omega) z2.1 z2.2) fun r4 g4=>?_
 refine Ok.oif (fun _=>no) (fun hs4=>?_)
 simp only [decide_eq_false_iff_not] at hs4
 have g4:=g4.resolve_left hs4
 refine Ok.bind (p_szPacketSS (by omega) (by omega) z3 z4) fun r5 g5=>?_
 refine Ok.oif (fun _=>no) (fun hs5=>?_)
 simp only [decide_eq_false_iff_not] at hs5
 exact Ok.some (Or.inr ⟨g3.2.2,g4.2.2.1,g4.2.2.2,(g5.resolve_left hs5).2⟩)
theorem q_toPacketS {d:Nat} {l:List Pk} (hl:l.length≤1048576):g49 (d+2) l=some l:=by
 rw [e49,nn,oif_t,oif_t,ofNat_toNat,show (Nat.ble l.length l.length&&Nat.ble (l.length*48) roomMax)=true by rw [Bool.and_eq_true,Nat.ble_eq,Nat.ble_eq];unfold roomMax;omega,oif_t]
 refine Ok.val (iter_ok (fun j (s:Int×List Pk)=>∃ k:Nat,k+j=l.length∧s.1=(k:Int)∧s.2=l.take k++List.replicate (l.length - k) ((0,0,0,0,0,0):Pk)) ?_ _ l.length _ (by rw [fuelN_eq];omega) ⟨0,by omega,rfl,by simp⟩)
 rintro j ⟨n,r⟩ ag ⟨k,hk,h1,h2⟩ hag
 simp only at h1 h2
 subst h1
 have hrl:r.length=l.length:=by rw [h2];simp;omega
 simp only [l49_0,l49_0_b]
 rcases Nat.lt_or_ge k l.length with hlt | hge
 ·have hx:=List.getElem?_eq_getElem hlt
  rw [ltl hx,oif_t,nn,oif_t,ofNat_toNat,hx,ob_s,e77,ob_s,oif_t,blt_of (by omega),oif_t,List.getElem?_eq_getElem (by omega),ob_s,wr1 (by omega)]
  exact hag (j - 1) _ (by omega) ⟨k+1,by omega,rfl,by rw [h2];exact set_next hx⟩
 ·have:k=l.length:=by omega
  subst this
  rw [ltn,oif_f]
  unfold j49_0
  exact Ok.some (by rw [h2];simp)
theorem q_toPacketSS {d:Nat} {l:List (List Pk)} (h:rwL l):g21 (d+3) l=some l:=by
 obtain ⟨hl,hr⟩:=h
 rw [e21,nn,oif_t,oif_t,ofNat_toNat,show (Nat.ble l.length l.length&&Nat.ble (l.length*24) roomMax)=true by rw [Bool.and_eq_true,Nat.ble_eq,Nat.ble_eq];unfold roomMax;omega,oif_t]
 refine Ok.val (iter_ok (fun j (s:Int×List (List Pk))=>∃ k:Nat,k+j=l.length∧s.1=(k:Int)∧s.2=l.take k++List.replicate (l.length - k) ([]:List Pk)) ?_ _ l.length _ (by rw [fuelN_eq];omega) ⟨0,by omega,rfl,by simp⟩)
 rintro j ⟨n,r⟩ ag ⟨k,hk,h1,h2⟩ hag
 simp only at h1 h2
 subst h1
 have hrl:r.length=l.length:=by rw [h2];simp;omega
 simp only [l21_0,l21_0_b]
 rcases Nat.lt_or_ge k l.length with hlt | hge
 ·have hx:=List.getElem?_eq_getElem hlt
  rw [ltl hx,oif_t,nn,oif_t,ofNat_toNat,hx,ob_s,q_toPacketS (hr _ (List.getElem_mem hlt)),ob_s,oif_t,blt_of (by omega),oif_t,List.getElem?_eq_getElem (show k < r.length by omega),ob_s,wr1 (by omega)]
  exact hag (j - 1) _ (by omega) ⟨k+1,by omega,rfl,by rw [h2];exact set_next hx⟩
 ·have:k=l.length:=by omega
  subst this
  rw [ltn,oif_f]
  unfold j21_0
  exact Ok.some (by rw [h2];simp)
theorem q_toRun {d:Nat} {r:Rg} (h:rgL r):g8 (d+4) r=some r:=by
 obtain ⟨h1,h2,h3,h4⟩:=h
 rw [e8,q_toLoaded h1,ob_s,show d+3=d+1+2 by omega,q_toTokens h2 h3,ob_s,show d+1+2=d+3 by omega,q_toPacketSS h4,ob_s]
theorem q_eqPacketS {d:Nat} {l:List Pk} (hl:l.length≤2000000):g62 (d+2) l l=some true:=by
 rw [e62,bne_self_eq_false,oif_f]
 refine (range_eq (fun (t:Bool) (i:Int)=>(t,i)) l (fun x i t k=>k t) (j62_0 (d+1)) ?_ ?_ (by rw [fuelN_eq];omega) false).trans ?_
 ·intro ag t i x hx;have hi:=(List.getElem?_eq_some_iff.1 hx).1;simp only [l62_0,l62_0_b,ltl hx,nn,ofNat_toNat,hx,ob_s,oif_t]
  rw [e91]
  simp only [bne_self_eq_false,oif_f,Bool.not_true,ob_s]
  rw [wr1 (by omega)]
 ·intro ag t;simp only [l62_0,l62_0_b,ltn,oif_f]
 ·rw [rangeR_fold (f:=fun _ _ t=>t)];rfl
theorem q_eqPacketSS {d:Nat} {l:List (List Pk)} (h:rwL l):g31 (d+3) l l=some true:=by
 obtain ⟨hl,hr⟩:=h
 rw [e31,bne_self_eq_false,oif_f]
 refine (range_eq (fun (t:Bool) (i:Int)=>(t,i)) l (fun x i t k=>k t) (j31_0 (d+2)) ?_ ?_ (by rw [fuelN_eq];omega) false).trans ?_
 ·intro ag t i x hx;have hi:=(List.getElem?_eq_some_iff.1 hx).1;simp only [l31_0,l31_0_b,ltl hx,nn,ofNat_toNat,hx,ob_s,oif_t]
  have:=hr _ (List.mem_of_getElem? hx)
  rw [q_eqPacketS (by omega),ob_s,Bool.not_true,oif_f,wr1 (by omega)]
 ·intro ag t;simp only [l31_0,l31_0_b,ltn,oif_f]
 ·rw [rangeR_fold (f:=fun _ _ t=>t)];rfl
theorem q_eqRun {d:Nat} {r:Rg} (h:rgL r):g10 (d+4) r r=some true:=by
 obtain ⟨h1,h2,h3,h4⟩:=h
 rw [e10,q_eqLoaded h1,ob_s,Bool.not_true,oif_f,show d+3=d+1+2 by omega,q_eqTokens (by omega) (by omega),ob_s,Bool.not_true,oif_f,show d+1+2=d+3 by omega,q_eqPacketSS h4,ob_s,Bool.not_true,oif_f,bne_self_eq_false,oif_f,bne_self_eq_false,oif_f]
theorem flat_tk {rows:List (List Pk)} {k:Nat} {row:List Pk} (hx:rows[k]? = some row):(rows.take (k+1)).flatten=(rows.take k).flatten++row:=by
 have hk:=(List.getElem?_eq_some_iff.1 hx).1
 have e:=(List.getElem?_eq_some_iff.1 hx).2
 rw [List.take_succ_eq_append_getElem hk,List.flatten_append,e]
 simp
theorem flat_le {rows:List (List Pk)} (k:Nat):(rows.take k).flatten.length≤rows.flatten.length:=by
 have:rows.flatten=(rows.take k).flatten++(rows.drop k).flatten:=by rw [← List.flatten_append,List.take_append_drop]
 rw [this,List.length_append];omega
theorem q_Concat {d:Nat} {rows:List (List Pk)} (hl:rows.length≤1000) (hs:rows.flatten.length≤100000):g28 (d+2) rows=some rows.flatten:=by
 rw [e28]
 have lp1:∀ (m k fuel:Nat),k+m=rows.length→m < fuel→iterP (l28_1 d rows (j28_0 d)) fuel ((rows.take k).flatten,((k:Nat):Int))=some rows.flatten:=by
  intro m
  induction m with
  | zero =>
   intro k fuel e h
   obtain ⟨g,rfl⟩:∃ g,fuel=g+1:=⟨fuel - 1,by omega⟩
   obtain rfl:k=rows.length:=by omega
   simp only [iterP,l28_1,l28_1_b,ltn,oif_f]
   rw [List.take_length];rfl
  | succ m ih =>
   intro k fuel e h
   obtain ⟨g,rfl⟩:∃ g,fuel=g+1:=⟨fuel - 1,by omega⟩
   have hk:k < rows.length:=by omega
   have hx:=List.getElem?_eq_getElem hk
   have h2:=flat_le (rows:=rows) (k+1)
   rw [flat_tk hx,List.length_append] at h2
   simp only [iterP,l28_1,l28_1_b,ltl hx,nn,ofNat_toNat,hx,ob_s,oif_t]
   rw [room (by omega),oif_t,wr1 (by omega),← flat_tk hx]
   exact ih (k+1) g (by omega) (by omega)
 have lp2:∀ (m k fuel:Nat),k+m=rows.length→m < fuel→iterP (l28_1x d rows (j28_1 d)) fuel ((rows.take k).flatten,((k:Nat):Int))=some rows.flatten:=by
  intro m
  induction m with
  | zero =>
   intro k fuel e h
   obtain ⟨g,rfl⟩:∃ g,fuel=g+1:=⟨fuel - 1,by omega⟩
   obtain rfl:k=rows.length:=by omega
   simp only [iterP,l28_1x,l28_1x_b,ltn,oif_f]
   rw [List.take_length];rfl
  | succ m ih =>
   intro k fuel e h
   obtain ⟨g,rfl⟩:∃ g,fuel=g+1:=⟨fuel - 1,by omega⟩
   have hk:k < rows.length:=by omega
   have hx:=List.getElem?_eq_getElem hk
   have h2:=flat_le (rows:=rows) (k+1)
   rw [flat_tk hx,List.length_append] at h2
   simp only [iterP,l28_1x,l28_1x_b,ltl hx,nn,ofNat_toNat,hx,ob_s,oif_t]
   rw [room (by omega),oif_t,wr1 (by omega),← flat_tk hx]
   exact ih (k+1) g (by omega) (by omega)
 have lp0:∀ (m k fuel:Nat),k+m=rows.length→m < fuel→iterP (l28_0 d rows (j28_2 d rows)) fuel ((((rows.take k).flatten.length:Nat):Int),((k:Nat):Int))=j28_2 d rows ((rows.flatten.length:Nat):Int):=by
  intro m
  induction m with
  | zero =>
   intro k fuel e h
   obtain ⟨g,rfl⟩:∃ g,fuel=g+1:=⟨fuel - 1,by omega⟩
   obtain rfl:k=rows.length:=by omega
   simp only [iterP,l28_0,l28_0_b,ltn,oif_f]
   rw [List.take_length]
  | succ m ih =>
   intro k fuel e h
   obtain ⟨g,rfl⟩:∃ g,fuel=g+1:=⟨fuel - 1,by omega⟩
   have hk:k < rows.length:=by omega
   have hx:=List.getElem?_eq_getElem hk
   have h2:=flat_le (rows:=rows) (k+1)
   have h3:=flat_tk hx
   have h4:(rows.take (k+1)).flatten.length=(rows.take k).flatten.length+(rows[k]).length:=by rw [h3,List.length_append]
   simp only [iterP,l28_0,l28_0_b,ltl hx,nn,ofNat_toNat,hx,ob_s,oif_t]
   rw [wr (n:=(((rows.take k).flatten.length:Nat):Int)+(((rows[k]).length:Nat):Int)) (by omega) (by omega),decide_eq_false (by omega),oif_f,wr1 (by omega),show (((rows.take k).flatten.length:Nat):Int)+(((rows[k]).length:Nat):Int)=(((rows.take (k+1)).flatten.length:Nat):Int) by omega]
   exact ih (k+1) g (by omega) (by omega)
 refine (lp0 rows.length 0 fuelN (by omega) (by rw [fuelN_eq];omega)).trans ?_
 unfold j28_2
 have e0:IntKind.i64.wrap ((0:Int) - ((0:Nat):Int))=0:=by rw [wr (by omega) (by omega)];rfl
 rw [decide_eq_false (by omega),oif_f,e0,Int.sub_zero,wr (by omega) (by omega)]
 by_cases h:rows.flatten.length=0
 ·rw [decide_eq_false (by omega),oif_f]
  exact lp2 rows.length 0 fuelN (by omega) (by rw [fuelN_eq];omega)
 ·rw [decide_eq_true (by omega),oif_t,show Nat.ble 0 0=true from rfl,oif_t,nn,Bool.true_and,decide_eq_true (by unfold roomMax;omega),oif_t,ofNat_toNat,List.length_replicate,show Nat.ble (rows.flatten.length*48) roomMax=true by rw [Nat.ble_eq];unfold roomMax;omega,oif_t]
  rw [show decide (0≤((0:Nat):Int))=true from rfl,oif_t,show (((0:Nat):Int)).toNat=0 from rfl,show Nat.ble 0 rows.flatten.length=true by rw [Nat.ble_eq];omega,oif_t,List.take_zero]
  exact lp1 rows.length 0 fuelN (by omega) (by rw [fuelN_eq];omega)
def tkF (f:Fl5) (p:Pk):Bool:=(IntKind.i64.wrap ((BitVec.ofInt IntKind.i64.bits (([p.2.1,p.2.2.1,p.2.2.2.1,p.2.2.2.2.1]:List Int).getD f.2.1.toNat 0) &&& BitVec.ofInt IntKind.i64.bits f.2.2.1).toNat:Int))==f.2.2.2.1
theorem q_takes {d:Nat} {f:Fl5} {p:Pk} (h:0≤f.2.1∧f.2.1≤3):g86 (d+2) f p=some (tkF f p):=by
 rw [e86,e55,ob_s,decide_eq_true h.1,oif_t,getD_get (l:=[p.2.1,p.2.2.1,p.2.2.2.1,p.2.2.2.2.1]) (z:=0) (by simp only [List.length_cons,List.length_nil];omega),ob_s]
 rfl
theorem q_fiTakes {d:Nat} {f:Fl5} {p:Pk} (h:0≤f.2.1∧f.2.1≤3):g100 (d+2) f p=some (tkF f p):=by
 have h4:f.2.1.toNat < ([p.2.1,p.2.2.1,p.2.2.2.1,p.2.2.2.2.1]:List Int).length:=by simp only [List.length_cons,List.length_nil];omega
 rw [e100,e133,decide_eq_true h.1,oif_t,blt_of h4,oif_t,getD_get (l:=[p.2.1,p.2.2.1,p.2.2.2.1,p.2.2.2.2.1]) (z:=0) h4,ob_s,ob_s]
 rfl
structure Lr (x:Ld):Prop where
 fo:∀ f∈x.2.2.2.2.2.2.1,0≤f.2.1∧f.2.1≤3
 tl:x.2.2.2.2.2.2.2.1.length=x.2.2.2.2.2.2.1.length
 f16:x.2.2.2.2.2.2.1.length≤16
 lim:∀ c∈x.2.1,c.2.2.2.2.2.2.2≤60
 rat:∀ c∈x.2.1,1≤c.2.2.1∧c.2.2.1≤100000∧1≤c.2.2.2.1∧c.2.2.2.1≤100000
 bul:∀ c∈x.2.1,1500≤c.2.2.2.2.1∧1500≤c.2.2.2.2.2.1∧0≤c.2.2.2.2.2.2.1∧c.2.2.2.2.2.2.1≤7
theorem lr_of {x:Ld} (h:lgB x=true):Lr x:=by
 unfold lgB smB at h
 simp only [Bool.and_eq_true,decide_eq_true_eq] at h
 obtain ⟨hz,hg,s1,s2,s3,s4,s5,s6,s7⟩:=h
 have G:=gd_of hg
 have hc:=G.cl
 unfold clsB at hc
 simp only [Bool.and_eq_true] at hc
 obtain ⟨_,_,_,_,_,h6,h7,h8,h9⟩:=hc
 have hm:∀ c∈x.2.1,c∈(unV x).2.1:=fun c hc=>insV_perm.mem_iff.2 hc
 refine ⟨fun f hf=>?_,?_,hz.2,fun c hc=>?_,fun c hc=>?_,fun c hc=>?_⟩
 ·have:=(G.tgt f hf).2.2
  unfold filB at this
  simp only [Bool.and_eq_true,decide_eq_true_eq] at this
  omega
 ·rw [s6]
  show (x.2.2.2.2.2.2.1.map _).length=_
  rw [List.length_map]
 ·have:=List.all_eq_true.1 h9 c (hm c hc)
  unfold limB at this
  split at this
  ·simp only [decide_eq_true_eq] at this;omega
  ·simp only [beq_iff_eq] at this;omega
 ·have:=List.all_eq_true.1 h6 c (hm c hc)
  unfold rateB at this
  simp only [decide_eq_true_eq] at this
  omega
 ·have:=List.all_eq_true.1 h8 c (hm c hc)
  unfold burB at this
  simp only [decide_eq_true_eq] at this
  omega
def ffV (fs:List Fl5) (p:Pk):Int:=fiP (fun f=>tkF f p) fs 0
theorem q_firstFilter {d:Nat} {fs:List Fl5} {p:Pk} (hl:fs.length≤1000) (h:∀ f∈fs,0≤f.2.1∧f.2.1≤3):g56 (d+3) fs p=some (ffV fs p):=by
 rw [e56]
 refine (range_eq (fun (t:Int) (i:Int)=>(t,i)) fs (fun f i t k=>oif (tkF f p) (some ((i:Nat):Int)) (k t)) (fun _=>some (-1)) ?_ ?_ (by rw [fuelN_eq];omega) 0).trans (range_find fs 0 _)
 ·intro ag t i f hx
  have hi:=(List.getElem?_eq_some_iff.1 hx).1
  simp only [l56_0,l56_0_b,ltl hx,nn,ofNat_toNat,hx,ob_s,oif_t]
  rw [q_takes (h f (List.mem_of_getElem? hx)),ob_s,wr1 (by omega)]
 ·intro ag t;simp only [l56_0,l56_0_b,ltn,oif_f];rfl
theorem q_fiFirst {d:Nat} {fs:List Fl5} {p:Pk} (hl:fs.length≤1000) (h:∀ f∈fs,0≤f.2.1∧f.2.1≤3):g74 (d+3) fs p=some (ffV fs p):=by
 rw [e74]
 refine (range_eq (fun (t:Int) (i:Int)=>(t,i)) fs (fun f i t k=>oif (tkF f p) (some ((i:Nat):Int)) (k t)) (fun _=>some (-1)) ?_ ?_ (by rw [fuelN_eq];omega) 0).trans (range_find fs 0 _)
 ·intro ag t i f hx
  have hi:=(List.getElem?_eq_some_iff.1 hx).1
  simp only [l74_0,l74_0_b,ltl hx,nn,ofNat_toNat,hx,ob_s,oif_t]
  rw [q_fiTakes (h f (List.mem_of_getElem? hx)),ob_s,wr1 (by omega)]
 ·intro ag t;simp only [l74_0,l74_0_b,ltn,oif_f];rfl
def lfA (x:Ld) (p:Pk):Int:=if ffV x.2.2.2.2.2.2.1 p≥0 then x.2.2.2.2.2.2.2.1.getD (ffV x.2.2.2.2.2.2.1 p).toNat 0 else x.2.2.2.2.2.2.2.2
theorem ffV_lt {fs:List Fl5} {p:Pk} (h:0≤ffV fs p):ffV fs p < ((fs.length:Nat):Int):=by
 obtain ⟨j,y,h1,h2,h3,_⟩:=fiP_some h
 have:=(List.getElem?_eq_some_iff.1 h2).1
 unfold ffV at *
 omega
theorem q_leafAt {d:Nat} {x:Ld} {p:Pk} (R:Lr x):g26 (d+4) x p=some (lfA x p):=by
 have h16:=R.f16
 rw [e26,q_firstFilter (by omega) R.fo,ob_s]
 unfold lfA
 by_cases h:ffV x.2.2.2.2.2.2.1 p≥0
 ·have:=ffV_lt h
  have:=R.tl
  rw [decide_eq_true h,oif_t,oif_t,getD_get (l:=x.2.2.2.2.2.2.2.1) (z:=0) (by omega),ob_s,if_pos h]
 ·rw [decide_eq_false h,oif_f,if_neg h]
theorem q_loFor {d:Nat} {x:Ld} {p:Pk} (R:Lr x):g44 (d+4) x p=some (lfA x p):=by
 have h16:=R.f16
 rw [e44,q_fiFirst (by omega) R.fo,ob_s]
 unfold lfA
 by_cases h:ffV x.2.2.2.2.2.2.1 p≥0
 ·have:=ffV_lt h
  have:=R.tl
  rw [decide_eq_true h,oif_t,oif_t,getD_get (l:=x.2.2.2.2.2.2.2.1) (z:=0) (by omega),ob_s,if_pos h]
 ·rw [decide_eq_false h,oif_f,if_neg h]
def limA (x:Ld) (w:Int):Int:=(clAt x.2.1 w).2.2.2.2.2.2.2
def rkB (x:Ld) (w:Int) (row:List Pk):Bool := !decide (((row.length:Nat):Int) > limA x w)&&row.all (fun p=>pkOk p&&(lfA x p==w))
def rsB (r:Rg):Bool:=decide (r.2.2.1.length=(lvV r.1.2.2.2.1).length)&&(decide (-1≤r.2.2.2.1∧r.2.2.2.1 < (((lvV r.1.2.2.2.1).length:Nat):Int))&&decide (0≤r.2.2.2.2∧r.2.2.2.2≤1000000))
def rnB (r:Rg):Bool:=lgB r.1&&(tkB r.1 r.2.1&&(rsB r&&(allI (fun w i=>rkB r.1 w (r.2.2.1.getD i [])) (lvV r.1.2.2.2.1) 0&&apV r.2.2.1.flatten)))
theorem lv_mem' {F:List Int} {w:Int} (h:w∈lvV F):0≤w∧w < ((F.length:Nat):Int):=by
 obtain ⟨j,x,h1,h2,h3⟩:=selI_mem _ _ h
 have:=(List.getElem?_eq_some_iff.1 h1).1
 omega
theorem getD_getR {l:List (List Pk)} {i:Nat} (h:i < l.length):l[i]? = some (l.getD i []):=by
 rw [List.getD_eq_getElem?_getD,List.getElem?_eq_getElem h];rfl
theorem rows_le {x:Ld} {rows:List (List Pk)} {W:List Int} (R:Lr x) (hW:∀ w∈W,vI x.2.1 w) (hl:rows.length=W.length) (h:allI (fun w i=>rkB x w (rows.getD i [])) W 0=true):(∀ row∈rows,row.length≤60)∧∀ row∈rows,∀ p∈row,pkOk p=true:=by
 rw [allI_iff] at h
 have key:∀ row∈rows,row.length≤60∧∀ p∈row,pkOk p=true:=by
  intro row hr
  obtain ⟨i,hi⟩:=List.getElem?_of_mem hr
  have hlt:=(List.getElem?_eq_some_iff.1 hi).1
  have hw:=List.getElem?_eq_getElem (l:=W) (i:=i) (by omega)
  have:=h i _ hw
  rw [Nat.zero_add,List.getD_eq_getElem?_getD,hi] at this
  unfold rkB limA at this
  simp only [Option.getD_some,Bool.and_eq_true,Bool.not_eq_true',decide_eq_false_iff_not,List.all_eq_true] at this
  have hv:=hW _ (List.mem_of_getElem? hw)
  have h60:=R.lim _ (List.mem_of_getElem? (vI_get hv))
  exact ⟨by omega,fun p hp=>(this.2 p hp).1⟩
 exact ⟨fun row hr=>(key row hr).1,fun row hr=>(key row hr).2⟩
theorem flat_bound {B:Nat}:∀ {rows:List (List Pk)},(∀ row∈rows,row.length≤B)→rows.flatten.length≤rows.length*B
 | [],_=>by simp
 | r::rows,h=>by
  have:=flat_bound (B:=B) (rows:=rows) fun row hr=>h row (by simp [hr])
  have:=h r (by simp)
  rw [List.flatten_cons,List.length_append,List.length_cons,Nat.add_mul,Nat.one_mul]
  omega
theorem q_IsRun {d:Nat} {r:Rg} (h:ldSz r.1):g9 (d+28) r=some (rnB r):=by
 rw [e9,q_IsLoaded h,ob_s]
 unfold rnB rsB j9_3
 cases hg:lgB r.1 with
 | false=>rfl
 | true =>
  have L:=lk_of hg
  have R:=lr_of hg
  have h24:=L.n24
  have hf:=L.fl
  have hv:=lvV_len (F:=r.1.2.2.2.1)
  rw [Bool.not_true,oif_f,show d+27=d+26+1 by omega,q_areTokens17 (by omega),ob_s,Bool.true_and]
  cases hb:tkB r.1 r.2.1 with
  | false=>rfl
  | true =>
   rw [Bool.not_true,oif_f,q_leavesAt (by omega) hf,ob_s,Bool.true_and]
   unfold j9_2
   by_cases a:r.2.2.1.length=(lvV r.1.2.2.2.1).length
   case neg=>rw [show ((((r.2.2.1.length:Nat):Int)) != (((lvV r.1.2.2.2.1).length:Nat):Int))=true by simp;omega,oif_t,oif_t,decide_eq_false a];rfl
   rw [show ((((r.2.2.1.length:Nat):Int)) != (((lvV r.1.2.2.2.1).length:Nat):Int))=false by simp;omega,oif_f,decide_eq_true a,Bool.true_and]
   by_cases a1:r.2.2.2.1 < -1
   ·rw [decide_eq_true a1,oif_t,oif_t,decide_eq_false (show ¬ (-1≤r.2.2.2.1∧r.2.2.2.1 < (((lvV r.1.2.2.2.1).length:Nat):Int)) by omega)];rfl
   rw [decide_eq_false a1,oif_f]
   by_cases a2:r.2.2.2.1≥(((lvV r.1.2.2.2.1).length:Nat):Int)
   ·rw [decide_eq_true a2,oif_t,oif_t,decide_eq_false (show ¬ (-1≤r.2.2.2.1∧r.2.2.2.1 < (((lvV r.1.2.2.2.1).length:Nat):Int)) by omega)];rfl
   rw [decide_eq_false a2,oif_f,decide_eq_true (show -1≤r.2.2.2.1∧r.2.2.2.1 < (((lvV r.1.2.2.2.1).length:Nat):Int) by omega),Bool.true_and]
   by_cases a3:r.2.2.2.2 < 0
   ·rw [decide_eq_true a3,oif_t,oif_t,decide_eq_false (show ¬ (0≤r.2.2.2.2∧r.2.2.2.2≤1000000) by omega)];rfl
   rw [decide_eq_false a3,oif_f]
   by_cases a4:r.2.2.2.2 > 1000000
   ·rw [decide_eq_true a4,oif_t,decide_eq_false (show ¬ (0≤r.2.2.2.2∧r.2.2.2.2≤1000000) by omega)];rfl
   rw [decide_eq_false a4,oif_f,decide_eq_true (show 0≤r.2.2.2.2∧r.2.2.2.2≤1000000 by omega),Bool.true_and]
   have hW:∀ w∈lvV r.1.2.2.2.1,vI r.1.2.1 w:=fun w hw=>by obtain ⟨q1,q2⟩:=lv_mem' hw;exact ⟨q1,by omega⟩
   refine (range_eq (fun (b:Bool) (i:Int)=>(b,i)) (lvV r.1.2.2.2.1) (fun w i b k=>oif (rkB r.1 w (r.2.2.1.getD i [])) (k b) (some false)) (fun b=>j9_0 (d+26+1) r b) ?_ ?_ (by rw [fuelN_eq];omega) false).trans ?_
   ·intro ag b i w hx
    have hi:=(List.getElem?_eq_some_iff.1 hx).1
    have hv':=hW w (List.mem_of_getElem? hx)
    have h60:=R.lim _ (List.mem_of_getElem? (vI_get hv'))
    simp only [l9_0,l9_0_b,ltl hx,nn,ofNat_toNat,hx,ob_s,oif_t,bltl hx]
    rw [getD_getR (l:=r.2.2.1) (by omega)]
    simp only [ob_s]
    rw [decide_eq_true hv'.1,oif_t,vI_get hv',ob_s]
    unfold rkB limA
    by_cases b1:((((r.2.2.1.getD i []).length:Nat):Int)) > (clAt r.1.2.1 w).2.2.2.2.2.2.2
    ·rw [decide_eq_true b1,oif_t,Bool.not_true,Bool.false_and,oif_f]
    ·rw [decide_eq_false b1,oif_f,Bool.not_false,Bool.true_and]
     refine (range_eq (fun (b:Bool) (j:Int)=>(b,j)) (r.2.2.1.getD i []) (fun p _ b k=>oif (pkOk p&&(lfA r.1 p==w)) (k b) (some false)) (fun b=>ag (b,((i+1:Nat):Int))) ?_ ?_ (by rw [fuelN_eq];omega) b).trans ?_
     ·intro ag' b' j p hp
      have hj:=(List.getElem?_eq_some_iff.1 hp).1
      simp only [l9_1,l9_1_b,ltl hp,nn,ofNat_toNat,hp,ob_s,oif_t]
      rw [show d+26+1=d+25+2 by omega,q_IsPacket,ob_s,show d+25+2=d+23+4 by omega,q_leafAt R,ob_s,wr1 (by omega)]
      cases pkOk p with
      | false=>rfl
      | true =>
       rw [Bool.not_true,oif_f,Bool.true_and]
       by_cases e:lfA r.1 p=w
       ·rw [show (lfA r.1 p != w)=false by rw [e];exact bne_self_eq_false _,oif_f,show (lfA r.1 p==w)=true from beq_iff_eq.2 e,oif_t]
       ·rw [show (lfA r.1 p != w)=true from bne_iff_ne.2 e,oif_t,show (lfA r.1 p==w)=false from beq_eq_false_iff_ne.2 e,oif_f]
     ·intro ag' b'
      simp only [l9_1,l9_1_b,ltn,oif_f]
      unfold j9_1
      rw [wr1 (by omega)]
     ·rw [rangeR_all (p:=fun p=>pkOk p&&(lfA r.1 p==w))]
   ·intro ag t;simp only [l9_0,l9_0_b,ltn,oif_f]
   ·rw [rangeR_allI]
    cases hk:allI (fun w i=>rkB r.1 w (r.2.2.1.getD i [])) (lvV r.1.2.2.2.1) 0 with
    | false=>rfl
    | true =>
     obtain ⟨r1,r2⟩:=rows_le R hW a hk
     have:=flat_bound r1
     rw [oif_t,Bool.true_and]
     unfold j9_0
     rw [show d+26+1=d+25+2 by omega,q_Concat (by omega) (by omega),ob_s,show d+25+2=d+22+5 by omega,q_apartIds (by omega),ob_s]
def allS {α τ:Type} (p:α→Nat→τ→Bool) (f:α→Nat→τ→τ):List α→Nat→τ→Bool
 | [],_,_=>true
 | x::r,i,t=>p x i t&&allS p f r (i+1) (f x i t)
theorem rangeR_st {α τ β:Type} {p:α→Nat→τ→Bool} {f:α→Nat→τ→τ} {step:α→Nat→τ→(τ→Option β)→Option β} {no:Option β} {fin:τ→Option β} (I:Nat→τ→Prop):∀ (l:List α) (i:Nat) (t:τ),I i t→(∀ j x t k,l[j]? = some x→I (i+j) t→step x (i+j) t k=oif (p x (i+j) t) (k (f x (i+j) t)) no∧(p x (i+j) t=true→I (i+j+1) (f x (i+j) t)))→rangeR step fin l i t=oif (allS p f l i t) (fin (foldI f l i t)) no
 | [],i,t,_,_=>rfl
 | x::r,i,t,hI,h=>by
  simp only [rangeR,foldI,allS]
  obtain ⟨h1,h2⟩:=h 0 x t (fun t'=>rangeR step fin r (i+1) t') rfl hI
  rw [Nat.add_zero] at h1 h2
  rw [h1]
  cases hp:p x i t with
  | false=>rfl
  | true =>
   rw [oif_t,Bool.true_and]
   exact rangeR_st I r (i+1) _ (h2 hp) (fun j y t k hy ht=>by
    have:=h (j+1) y t k (by simpa using hy)
    rw [show i+(j+1)=i+1+j by omega] at this
    exact this ht)
abbrev Bs:=Bool×List Int
def ppS (x:Ld) (w:Int) (p:Pk) (_:Nat) (t:Bs):Bool:=pkOk p&&((lfA x p==w) && !(t.2.any fun z=>z==p.1))
def ffS (p:Pk) (_:Nat) (t:Bs):Bs:=(t.1,t.2++[p.1])
def prS (x:Ld) (W:List Int) (row:List Pk) (i:Nat) (t:Bs):Bool := !decide (((row.length:Nat):Int) > limA x (W.getD i 0))&&allS (ppS x (W.getD i 0)) ffS row 0 t
def frS (row:List Pk) (_:Nat) (t:Bs):Bs:=(t.1,t.2++row.map fun p=>p.1)
theorem fold_ffS:∀ (row:List Pk) (i:Nat) (t:Bs),foldI ffS row i t=frS row 0 t
 | [],i,t=>by simp [foldI,frS]
 | p::r,i,t=>by
  simp only [foldI]
  rw [fold_ffS r (i+1)]
  simp [frS,ffS]
theorem pp_iff {x:Ld} {w:Int}:∀ (row:List Pk) (i:Nat) (t:Bs),allS (ppS x w) ffS row i t=true↔(∀ p∈row,pkOk p=true∧lfA x p=w)∧(∀ p∈row,p.1∉t.2)∧(row.map fun p=>p.1).Nodup
 | [],i,t=>by simp [allS]
 | p::r,i,t=>by
  simp only [allS,Bool.and_eq_true,pp_iff r (i+1),ppS,ffS,beq_iff_eq,Bool.not_eq_true',List.any_eq_false,List.mem_cons,forall_eq_or_imp,List.map_cons,List.nodup_cons,List.mem_append,List.mem_singleton]
  constructor
  ·rintro ⟨⟨a1,a2,a3⟩,b1,b2,b3⟩
   refine ⟨⟨⟨a1,a2⟩,b1⟩,⟨fun hm=>a3 _ hm rfl,fun q hq hm=>b2 q hq (Or.inl hm)⟩,fun hm=>?_,b3⟩
   obtain ⟨q,hq,e⟩:=List.mem_map.1 hm
   exact b2 q hq (Or.inr (Or.inl e))
  ·rintro ⟨⟨⟨a1,a2⟩,b1⟩,⟨c1,c2⟩,n1,n2⟩
   refine ⟨⟨a1,a2,fun z hz e=>c1 (e▸hz)⟩,b1,fun q hq hm=>?_,n2⟩
   rcases hm with hm | hm | hm
   ·exact c2 q hq hm
   ·exact n1 (List.mem_map.2 ⟨q,hq,hm⟩)
   ·simp at hm
theorem pr_iff {x:Ld} {W:List Int}:∀ (rows:List (List Pk)) (i:Nat) (t:Bs),allS (prS x W) frS rows i t=true↔(∀ j row,rows[j]? = some row→rkB x (W.getD (i+j) 0) row=true)∧(∀ p∈rows.flatten,p.1∉t.2)∧(rows.flatten.map fun p=>p.1).Nodup
 | [],i,t=>by simp [allS]
 | row::rows,i,t=>by
  simp only [allS,Bool.and_eq_true,pr_iff rows (i+1),prS,pp_iff,frS,List.flatten_cons,List.mem_append,List.map_append,List.nodup_append]
  have hrow:rkB x (W.getD i 0) row=true↔(!decide (((row.length:Nat):Int) > limA x (W.getD i 0)))=true∧∀ p∈row,pkOk p=true∧lfA x p=W.getD i 0:=by
   unfold rkB
   simp only [Bool.and_eq_true,List.all_eq_true,beq_iff_eq]
  constructor
  ·rintro ⟨⟨a1,a2,a3,a4⟩,b1,b2,b3⟩
   refine ⟨fun j r hj=>?_,fun p hp hm=>?_,a4,b3,fun y hy z hz e=>?_⟩
   ·cases j with
    | zero=>simp only [List.getElem?_cons_zero,Option.some.injEq] at hj;subst hj;exact hrow.2 ⟨a1,a2⟩
    | succ j=>have:=b1 j r (by simpa using hj);rw [show i+(j+1)=i+1+j by omega];exact this
   ·rcases hp with hp | hp
    ·exact a3 p hp hm
    ·exact b2 p hp (Or.inl hm)
   ·obtain ⟨q,hq,rfl⟩:=List.mem_map.1 hz
    exact b2 q hq (Or.inr (e▸hy))
  ·rintro ⟨h1,h2,n1,n2,n3⟩
   obtain ⟨a1,a2⟩:=hrow.1 (h1 0 row rfl)
   refine ⟨⟨a1,a2,fun p hp=>h2 p (Or.inl hp),n1⟩,fun j r hj=>?_,fun p hp hm=>?_,n2⟩
   ·have:=h1 (j+1) r (by simpa using hj);rw [show i+(j+1)=i+1+j by omega] at this;exact this
   ·rcases hm with hm | hm
    ·exact h2 p (Or.inr hp) hm
    ·exact n3 _ hm _ (List.mem_map.2 ⟨p,hp,rfl⟩) rfl
theorem rows_eq {x:Ld} {rows:List (List Pk)} {W:List Int} (hl:rows.length=W.length):allS (prS x W) frS rows 0 (false,[])=(allI (fun w i=>rkB x w (rows.getD i [])) W 0&&apV rows.flatten):=by
 rw [Bool.eq_iff_iff,pr_iff,Bool.and_eq_true,allI_iff,ap_iff]
 constructor
 ·rintro ⟨h1,_,h3⟩
  refine ⟨fun j w hw=>?_,fun p hp=>?_,h3⟩
  ·have hj:=(List.getElem?_eq_some_iff.1 hw).1
   have:=h1 j _ (getD_getR (l:=rows) (i:=j) (by omega))
   rw [Nat.zero_add] at this ⊢
   rw [List.getD_eq_getElem?_getD (l:=W),hw] at this
   exact this
  ·obtain ⟨row,hr,hp⟩:=List.mem_flatten.1 hp
   obtain ⟨j,hj⟩:=List.getElem?_of_mem hr
   have:=h1 j _ hj
   unfold rkB at this
   simp only [Bool.and_eq_true,List.all_eq_true] at this
   exact (this.2 p hp).1
 ·rintro ⟨h1,h2,h3⟩
  refine ⟨fun j row hj=>?_,fun p _ hm=>by simp at hm,h3⟩
  have hlt:=(List.getElem?_eq_some_iff.1 hj).1
  have:=h1 j _ (getD_get (l:=W) (i:=j) (z:=0) (by omega))
  rw [Nat.zero_add] at this ⊢
  rw [List.getD_eq_getElem?_getD (l:=rows),hj] at this
  exact this
theorem q_l1HasI {d:Nat} {l:List Int} {n:Int} (hl:l.length < 4194304):g45 (d+1) l n=some (l.any fun x=>x==n):=by
 rw [e45]
 refine (range_eq (fun (t:Bool) (i:Int)=>(t,i)) l (fun x _ t k=>oif (x==n) (some true) (k t)) (fun _=>some false) ?_ ?_ (by rw [fuelN_eq];exact hl) false).trans ?_
 ·intro ag t i x hx;have hi:=(List.getElem?_eq_some_iff.1 hx).1;simp only [l45_0,l45_0_b,ltl hx,nn,ofNat_toNat,hx,ob_s,oif_t];rw [wr1 (by omega)]
 ·intro ag t;simp only [l45_0,l45_0_b,ltn,oif_f];rfl
 ·exact range_any l 0 false
theorem s_row {d:Nat} {r:Rg} (R:Lr r.1) {W:List Int} {w:Int} {i:Nat} (hw:W[i]? = some w) (hW:W.length≤1000) {row:List Pk} {k:Bs→Option Bool} (t:Bs) (ht:t.2.length≤10000) (hr:row.length≤60) :
  iterP (l18_1 (d+4) r W (i:Int) row (fun b _ l=>k (b,l))) fuelN (t.1,t.2,0)=oif (allS (ppS r.1 w) ffS row 0 t) (k (frS row 0 t)) (some false):=by
 refine (range_eq (fun (t:Bs) (i:Int)=>(t.1,t.2,i)) row (fun p _ t k=>oif (pkOk p) (oif (lfA r.1 p==w) (obind (g45 (d+4) t.2 p.1) fun h=>oif h (some false) (oif (Nat.ble ((t.2.length+[p.1].length)*8) roomMax) (k (t.1,t.2++[p.1])) none)) (some false)) (some false)) (fun t=>k t) ?_ ?_ (by rw [fuelN_eq];omega) t).trans ?_
 ·intro ag' b' j p hp
  have hj:=(List.getElem?_eq_some_iff.1 hp).1
  simp only [l18_1,l18_1_b,ltl hp,nn,ofNat_toNat,hp,ob_s,oif_t,bltl hw,hw]
  rw [show d+4=d+1+3 by omega,q_pkGood,ob_s,show d+1+3=d+4 by omega,q_loFor R,ob_s,wr1 (by omega)]
  cases pkOk p with
  | false=>rfl
  | true =>
   rw [Bool.not_true,oif_f,oif_t]
   by_cases e:lfA r.1 p=w
   ·rw [show (lfA r.1 p != w)=false by rw [e];exact bne_self_eq_false _,oif_f,show (lfA r.1 p==w)=true from beq_iff_eq.2 e,oif_t]
   ·rw [show (lfA r.1 p != w)=true from bne_iff_ne.2 e,oif_t,show (lfA r.1 p==w)=false from beq_eq_false_iff_ne.2 e,oif_f]
 ·intro ag' b'
  simp only [l18_1,l18_1_b,ltn,oif_f]
 ·rw [rangeR_st (p:=ppS r.1 w) (f:=ffS) (fun j t=>t.2.length≤10000+j) row 0 t (by omega) ?_,fold_ffS]
  intro j p t k hp hI
  have hj:=(List.getElem?_eq_some_iff.1 hp).1
  rw [show d+4=d+3+1 by omega,q_l1HasI (by omega),ob_s,room (by simp;omega),oif_t]
  refine ⟨?_,fun _=>by unfold ffS;simp;omega⟩
  unfold ppS
  cases pkOk p with
  | false=>rfl
  | true =>
   rw [oif_t,Bool.true_and]
   cases (lfA r.1 p==w) with
   | false=>rfl
   | true=>rw [oif_t,Bool.true_and];cases (t.2.any fun z=>z==p.1)<;>rfl
theorem q_spGood {d:Nat} {r:Rg} (h:ldSz r.1):g18 (d+13) r=some (rnB r):=by
 rw [e18,q_htGood h,ob_s]
 unfold rnB rsB
 cases hg:lgB r.1 with
 | false=>rfl
 | true =>
  have L:=lk_of hg
  have R:=lr_of hg
  have h24:=L.n24
  have hf:=L.fl
  have hv:=lvV_len (F:=r.1.2.2.2.1)
  cases hb:tkB r.1 r.2.1 with
  | false=>rfl
  | true =>
   rw [Bool.true_and,Bool.true_and,Bool.true_and,Bool.not_true,oif_f,show d+12=d+10+2 by omega,q_loLeaves (by omega) hf,ob_s]
   unfold j18_2
   by_cases a:r.2.2.1.length=(lvV r.1.2.2.2.1).length
   case neg=>rw [show ((((r.2.2.1.length:Nat):Int)) != (((lvV r.1.2.2.2.1).length:Nat):Int))=true by simp;omega,oif_t,oif_t,decide_eq_false a];rfl
   rw [show ((((r.2.2.1.length:Nat):Int)) != (((lvV r.1.2.2.2.1).length:Nat):Int))=false by simp;omega,oif_f,decide_eq_true a,Bool.true_and,show d+10+2=d+11+1 by omega,q_l1In,ob_s,wr (by omega) (by omega)]
   by_cases a1:-1≤r.2.2.2.1∧r.2.2.2.1 < (((lvV r.1.2.2.2.1).length:Nat):Int)
   case neg=>rw [decide_eq_false (show ¬ (-1≤r.2.2.2.1∧r.2.2.2.1≤(((lvV r.1.2.2.2.1).length:Nat):Int) - 1) by omega),Bool.not_false,oif_t,oif_t,decide_eq_false a1];rfl
   rw [decide_eq_true (show -1≤r.2.2.2.1∧r.2.2.2.1≤(((lvV r.1.2.2.2.1).length:Nat):Int) - 1 by omega),Bool.not_true,oif_f,decide_eq_true a1,Bool.true_and,q_l1In,ob_s]
   cases decide (0≤r.2.2.2.2∧r.2.2.2.2≤1000000) with
   | false=>rfl
   | true =>
    rw [Bool.not_true,oif_f,Bool.true_and,← rows_eq a]
    have hW:∀ w∈lvV r.1.2.2.2.1,vI r.1.2.1 w:=fun w hw=>by obtain ⟨q1,q2⟩:=lv_mem' hw;exact ⟨q1,by omega⟩
    refine (range_eq (fun (t:Bs) (i:Int)=>(t.1,t.2,i)) r.2.2.1 (fun row i t k=>oif (decide (((row.length:Nat):Int) > limA r.1 ((lvV r.1.2.2.2.1).getD i 0))) (some false) (iterP (l18_1 (d+11+1) r (lvV r.1.2.2.2.1) (i:Int) row (fun b _ l=>k (b,l))) fuelN (t.1,t.2,0))) (fun _=>some true) ?_ ?_ (by rw [fuelN_eq];omega) (false,[])).trans ?_
    ·intro ag t i row hx
     have hi:=(List.getElem?_eq_some_iff.1 hx).1
     have hlt:i < (lvV r.1.2.2.2.1).length:=by omega
     have hw:=getD_get (l:=lvV r.1.2.2.2.1) (i:=i) (z:=0) hlt
     have hv':=hW _ (List.mem_of_getElem? hw)
     simp only [l18_0,l18_0_b,ltl hx,nn,ofNat_toNat,hx,ob_s,oif_t]
     rw [blt_of hlt,oif_t,hw,ob_s,decide_eq_true hv'.1,oif_t,vI_get hv',ob_s]
     rw [show j18_1 (d+11+1) ag (i:Int)=fun b _ l=>ag (b,l,((i+1:Nat):Int)) from by
      funext b n l
      unfold j18_1
      rw [wr1 (by omega)]]
     rfl
    ·intro ag t;simp only [l18_0,l18_0_b,ltn,oif_f];rfl
    ·rw [rangeR_st (p:=prS r.1 (lvV r.1.2.2.2.1)) (f:=frS) (fun i t=>t.2.length≤60*i) r.2.2.1 0 (false,[]) (by simp) ?_]
     ·cases allS (prS r.1 (lvV r.1.2.2.2.1)) frS r.2.2.1 0 (false,[])<;>rfl
     ·intro j row t k hj hI
      rw [Nat.zero_add] at hI ⊢
      have hi:=(List.getElem?_eq_some_iff.1 hj).1
      have hw:=getD_get (l:=lvV r.1.2.2.2.1) (i:=j) (z:=0) (by omega)
      have hv':=hW _ (List.mem_of_getElem? hw)
      have h60:=R.lim _ (List.mem_of_getElem? (vI_get hv'))
      unfold prS
      by_cases b1:((row.length:Nat):Int) > limA r.1 ((lvV r.1.2.2.2.1).getD j 0)
      ·rw [decide_eq_true b1,oif_t,Bool.not_true,Bool.false_and,oif_f]
       exact ⟨rfl,fun h=>absurd h (by simp)⟩
      ·rw [decide_eq_false b1,oif_f,Bool.not_false,Bool.true_and]
       unfold limA at b1
       rw [show d+11+1=d+8+4 by omega,s_row R hw (by omega) t (by omega) (by omega)]
       refine ⟨rfl,fun _=>?_⟩
       unfold frS
       simp only [List.length_append,List.length_map]
       omega
abbrev tyC:Ty:=.pair (.int .i64) (.pair (.int .i64) (.pair (.int .i64) (.pair (.int .i64) (.pair (.int .i64) (.pair (.int .i64) (.pair (.int .i64) (.int .i64)))))))
abbrev tyF:Ty:=.pair (.int .i64) (.pair (.int .i64) (.pair (.int .i64) (.pair (.int .i64) (.int .i64))))
abbrev tyLd:Ty:=.pair .str (.pair (.sl tyC) (.pair (.sl (.int .i64)) (.pair (.sl (.int .i64)) (.pair (.sl (.int .i64)) (.pair (.sl (.int .i64)) (.pair (.sl tyF) (.pair (.sl (.int .i64)) (.int .i64))))))))
abbrev tyT:Ty:=.pair (.sl (.int .i64)) (.sl (.int .i64))
theorem ldW_of {x:Ld} (h:Wf tyLd x):ldW x:=by
 obtain ⟨h1,⟨h2,_⟩,⟨h3,_⟩,⟨h4,_⟩,⟨h5,_⟩,⟨h6,_⟩,⟨h7,_⟩,⟨h8,_⟩,_⟩:=h
 exact ⟨h1,h2,h3,h4,h5,h6,h7,h8⟩
def tkW (t:Tk):Prop:=t.1.length≤9223372036854775807∧t.2.length≤9223372036854775807
theorem tkW_of {t:Tk} (h:Wf tyT t):tkW t:=by
 obtain ⟨⟨h2,_⟩,⟨h3,_⟩⟩:=h
 exact ⟨h2,h3⟩
abbrev tyPk:Ty:=.pair (.int .i64) (.pair (.int .i64) (.pair (.int .i64) (.pair (.int .i64) (.pair (.int .i64) (.int .i64)))))
abbrev tyRn:Ty:=.pair tyLd (.pair tyT (.pair (.sl (.sl tyPk)) (.pair (.int .i64) (.int .i64))))
theorem rgW_of {r:Rg} (h:Wf tyRn r):rgW r:=by
 obtain ⟨h1,h2,⟨h3,h4⟩,_⟩:=h
 exact ⟨ldW_of h1,tkW_of h2,h3,fun q hq=>(h4 q hq).1⟩
theorem law_main {d:Nat} {r:Rg} (hw:rgW r):g3 (d+31) r=some true:=by
 rw [e3]
 obtain ⟨z,hz,hB⟩:=p_szRun (d:=d+27) hw
 rw [show d+30=d+27+3 by omega,hz,ob_s]
 by_cases h:z < 0
 ·rw [decide_eq_true h,oif_t]
 have hl:=hB.resolve_left h
 have hT:g8 (d+27+3) r=some r:=by rw [show d+27+3=d+26+4 by omega];exact q_toRun hl
 have hE:g10 (d+27+3) r r=some true:=by rw [show d+27+3=d+26+4 by omega];exact q_eqRun hl
 have hA:g9 (d+27+3) r=some (rnB r):=by rw [show d+27+3=d+2+28 by omega];exact q_IsRun hl.1.sz
 have hS:g7 (d+27+3) r=some (rnB r):=by
  rw [show d+27+3=d+29+1 by omega,e7,show d+29=d+16+13 by omega,q_spGood hl.1.sz,ob_s]
 rw [decide_eq_false h,oif_f,hT,ob_s,hS,ob_s,ob_s,hA,ob_s,beq_self_eq_true,Bool.not_true,oif_f,ob_s,hE,ob_s,Bool.not_true,oif_f]
def tysLaw:List Ty:=[tyRn]
theorem lawAny:LawAny Tryz.prog pvAnn (31) 3 tysLaw :=
 ⟨rfl,rfl,rfl,fun a h=>⟨true,law_main (d:=0) (rgW_of (h ⟨_,a⟩ (List.Mem.head _))),rfl⟩⟩
end Go.Proofs.YthodldbjhlpjhaaGreatDoor
