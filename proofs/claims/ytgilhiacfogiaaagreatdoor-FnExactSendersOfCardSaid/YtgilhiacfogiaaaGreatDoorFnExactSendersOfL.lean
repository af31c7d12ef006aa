/-
  Configurations by value. And what stood behind it in 5 texts.
  Conditions: said at the theorems.
-/
import Derived.Test.YtgilhiacfogiaaaGreatDoorK15
import Derived.Test.YtgilhiacfogiaaaGreatDoorRepW
set_option linter.all false
namespace Go.Proofs.YtgilhiacfogiaaaGreatDoor
open Go.Ev Go.Pv
instance dec4:DecidableEq (Int×Int×Int×Int):=inferInstance
theorem tw_all {p:Cl8→Bool}:∀ {l:List Cl8},(∀ y∈l,p y=true)→l.takeWhile p=l
 | [],_=>rfl
 | z::l,h=>by rw [List.takeWhile_cons,if_pos (h z (by simp)),tw_all (fun y hy=>h y (by simp [hy]))]
def putV (l:List Cl8) (x:Cl8):List Cl8:=(l.takeWhile fun y=>decide (y.1 < x.1))++x::l.dropWhile fun y=>decide (y.1 < x.1)
def insV (l:List Cl8):List Cl8:=foldI (fun x _ t=>putV t x) l 0 []
theorem putV_perm {l:List Cl8} {x:Cl8}:(putV l x).Perm (x::l):=by
 unfold putV
 refine List.perm_middle.trans (List.Perm.cons x ?_)
 rw [List.takeWhile_append_dropWhile]
theorem putV_len {l:List Cl8} {x:Cl8}:(putV l x).length=l.length+1:=by rw [putV_perm.length_eq];rfl
theorem dropWhile_ge {x:Cl8}:∀ {l:List Cl8},Srt kyC l→∀ y∈l.dropWhile (fun y=>decide (y.1 < x.1)),x.1≤y.1
 | [],_,y,hy=>by simp at hy
 | z::l,h,y,hy=>by
  rw [List.dropWhile_cons] at hy
  have h':=List.pairwise_cons.1 h
  by_cases hz:z.1 < x.1
  ·rw [if_pos (by simpa using hz)] at hy
   exact dropWhile_ge h'.2 y hy
  ·rw [if_neg (by simpa using hz)] at hy
   rcases List.mem_cons.1 hy with rfl | hy
   ·omega
   ·have:=h'.1 y hy;unfold kyC at this;omega
theorem takeWhile_lt {x:Cl8}:∀ {l:List Cl8},∀ y∈l.takeWhile (fun y=>decide (y.1 < x.1)),y.1 < x.1
 | [],y,hy=>by simp at hy
 | z::l,y,hy=>by
  rw [List.takeWhile_cons] at hy
  by_cases hz:z.1 < x.1
  ·rw [if_pos (by simpa using hz)] at hy
   rcases List.mem_cons.1 hy with rfl | hy
   ·exact hz
   ·exact takeWhile_lt y hy
  ·rw [if_neg (by simpa using hz)] at hy;simp at hy
theorem putV_srt {l:List Cl8} {x:Cl8} (h:Srt kyC l):Srt kyC (putV l x):=by
 have hl:Srt kyC (l.takeWhile (fun y=>decide (y.1 < x.1))++l.dropWhile (fun y=>decide (y.1 < x.1))):=by rw [List.takeWhile_append_dropWhile];exact h
 unfold putV Srt
 unfold Srt at hl
 rw [List.pairwise_append] at hl ⊢
 refine ⟨hl.1,List.pairwise_cons.2 ⟨fun y hy=>dropWhile_ge h y hy,hl.2.1⟩,fun a ha b hb=>?_⟩
 rcases List.mem_cons.1 hb with rfl | hb
 ·have:=takeWhile_lt a ha;unfold kyC;omega
 ·exact hl.2.2 a ha b hb
theorem ins_fold:∀ (l:List Cl8) (i:Nat) (t:List Cl8),Srt kyC t→Srt kyC (foldI (fun x _ t=>putV t x) l i t)∧(foldI (fun x _ t=>putV t x) l i t).Perm (l++t)
 | [],i,t,h=>⟨h,List.Perm.refl _⟩
 | x::r,i,t,h=>by
  simp only [foldI]
  obtain ⟨h1,h2⟩:=ins_fold r (i+1) (putV t x) (putV_srt h)
  refine ⟨h1,h2.trans ?_⟩
  exact (List.Perm.append_left r putV_perm).trans List.perm_middle
theorem insV_srt {l:List Cl8}:Srt kyC (insV l):=(ins_fold l 0 [] List.Pairwise.nil).1
theorem insV_perm {l:List Cl8}:(insV l).Perm l:=by
 have:=(ins_fold l 0 [] List.Pairwise.nil).2
 rw [List.append_nil] at this;exact this
theorem ids_nodup {l:List Cl8} (h:idsB l=true):(l.map (·.1)).Nodup:=by
 rw [List.nodup_iff_pairwise_ne,List.pairwise_map,List.pairwise_iff_getElem]
 intro i j hi hj hij e
 have:=ids_lt h j i _ _ hij (List.getElem?_eq_getElem hi) (List.getElem?_eq_getElem hj)
 omega
theorem map_inj {l:List Cl8} (h:(l.map (·.1)).Nodup) {a b:Cl8} (ha:a∈l) (hb:b∈l) (e:a.1=b.1):a=b:=by
 obtain ⟨i,hi⟩:=List.getElem?_of_mem ha
 obtain ⟨j,hj⟩:=List.getElem?_of_mem hb
 obtain ⟨hi1,hi2⟩:=List.getElem?_eq_some_iff.1 hi
 obtain ⟨hj1,hj2⟩:=List.getElem?_eq_some_iff.1 hj
 have:=(List.getElem_inj (h₀:=show i < (l.map (·.1)).length by simpa using hi1) (h₁:=show j < (l.map (·.1)).length by simpa using hj1) h).1 (by simp [hi2,hj2,e])
 subst this
 rw [← hi2,← hj2]
theorem srt_eq {l S:List Cl8} (h:Stb kyC l S) (hd:(l.map (·.1)).Nodup):S=insV l:=by
 refine List.Perm.eq_of_pairwise (le:=fun a b=>kyC a≤kyC b) (fun a b ha hb h1 h2=>?_) h.srt insV_srt (h.perm.trans insV_perm.symm)
 unfold kyC at h1 h2
 exact map_inj hd (h.perm.mem_iff.1 ha) (insV_perm.mem_iff.1 hb) (by omega)
theorem gd_nodup {c:Cf} {l:List Cl8} (h:gdB c=true) (hp:c.2.1.Perm l):(l.map (·.1)).Nodup:=by
 have hc:=(gd_of h).cl
 unfold clsB at hc
 simp only [Bool.and_eq_true] at hc
 exact (hp.map _).nodup_iff.1 (ids_nodup hc.2.1)
def dfL (x:Ld):Int:=if 0≤x.2.2.2.2.2.2.2.2∧x.2.2.2.2.2.2.2.2 < ((x.2.1.length:Nat):Int) then (clAt x.2.1 x.2.2.2.2.2.2.2.2).1 else 0
def unV (x:Ld):Cf:=(x.1,insV x.2.1,x.2.2.2.2.2.2.1,dfL x)
theorem un_eq {x:Ld} {c:Cf} (h1:c.1=x.1) (h2:Stb kyC x.2.1 c.2.1) (h3:c.2.2.1=x.2.2.2.2.2.2.1) (h4:c.2.2.2=dfL x):gdB c=gdB (unV x)∧(gdB (unV x)=true→c=unV x):=by
 obtain ⟨c1,c2,c3,c4⟩:=c
 simp only at h1 h2 h3 h4
 subst h1 h3 h4
 by_cases hd:(x.2.1.map (·.1)).Nodup
 ·have e:=srt_eq h2 hd
  subst e
  exact ⟨rfl,fun _=>rfl⟩
 ·have e1:gdB (x.1,c2,x.2.2.2.2.2.2.1,dfL x)=false:=Bool.eq_false_iff.2 fun h=>hd (gd_nodup h h2.perm)
  have e2:gdB (unV x)=false:=Bool.eq_false_iff.2 fun h=>hd (gd_nodup h insV_perm)
  exact ⟨by rw [e1,e2],fun h=>by rw [e2] at h;simp at h⟩
theorem p_sort {d:Nat} {l:List Cl8} {b:Bool} (hl:l.length≤1000000):Ok (g93 (d+25) l b) fun r=>Stb kyC l r:=by
 rw [e93]
 exact Ok.bind (p_stableC hl) fun r hr=>Ok.some hr
theorem p_unload {d:Nat} {x:Ld} (hl:x.2.1.length≤1000) (hf:x.2.2.2.2.2.2.1.length≤1000):Ok (g50 (d+26) x) fun c=>c.1=x.1∧Stb kyC x.2.1 c.2.1∧c.2.2.1=x.2.2.2.2.2.2.1∧c.2.2.2=dfL x:=by
 rw [e50,q_CloneC hl,ob_s,q_CloneF hf,ob_s]
 unfold j50_0 dfL
 by_cases h0:x.2.2.2.2.2.2.2.2≥0
 ·rw [decide_eq_true h0,oif_t]
  by_cases h1:x.2.2.2.2.2.2.2.2 < ((x.2.1.length:Nat):Int)
  ·rw [decide_eq_true h1,oif_t,oif_t,get_clAt h0 h1,ob_s,if_pos ⟨h0,h1⟩]
   exact Ok.bind (p_sort (by omega)) fun r hr=>Ok.some ⟨rfl,hr,rfl,rfl⟩
  ·rw [decide_eq_false h1,oif_f,if_neg (fun h=>h1 h.2)]
   exact Ok.bind (p_sort (by omega)) fun r hr=>Ok.some ⟨rfl,hr,rfl,rfl⟩
 ·rw [decide_eq_false h0,oif_f,oif_f,if_neg (fun h=>h0 h.1)]
  exact Ok.bind (p_sort (by omega)) fun r hr=>Ok.some ⟨rfl,hr,rfl,rfl⟩
theorem q_cfPut {d:Nat} {l:List Cl8} {x:Cl8} (hl:l.length≤10000):g84 (d+1) l x=some (putV l x):=by
 rw [e84]
 have fin:j84_0 d l x (((l.takeWhile fun y=>decide (y.1 < x.1)).length:Nat):Int)=some (putV l x):=by
  have hle:(l.takeWhile fun y=>decide (y.1 < x.1)).length≤l.length:=by
   have:=congrArg List.length (List.takeWhile_append_dropWhile (p:=fun y:Cl8=>decide (y.1 < x.1)) (l:=l))
   rw [List.length_append] at this;omega
  have ht:l.take (l.takeWhile fun y=>decide (y.1 < x.1)).length=l.takeWhile fun y=>decide (y.1 < x.1):=by
   conv=>lhs;arg 2;rw [← List.takeWhile_append_dropWhile (p:=fun y:Cl8=>decide (y.1 < x.1)) (l:=l)]
   rw [List.take_left]
  have hd:l.drop (l.takeWhile fun y=>decide (y.1 < x.1)).length=l.dropWhile fun y=>decide (y.1 < x.1):=by
   conv=>lhs;arg 2;rw [← List.takeWhile_append_dropWhile (p:=fun y:Cl8=>decide (y.1 < x.1)) (l:=l)]
   rw [List.drop_left]
  unfold j84_0
  simp only [nn,ofNat_toNat,oif_t]
  rw [ble_t hle,oif_t,oif_t,room (by simp;omega),oif_t,room (by simp;omega),oif_t,room (by simp;omega),oif_t,ht,hd]
  unfold putV
  simp
 have key:∀ (B A:List Cl8) (fuel:Nat),l=A++B→(∀ y∈A,y.1 < x.1)→B.length < fuel→iterP (l84_0 d l x (j84_0 d l x)) fuel ((A.length:Nat):Int)=some (putV l x):=by
  intro B
  induction B with
  | nil =>
   intro A fuel e hA hf
   obtain ⟨g,rfl⟩:∃ g,fuel=g+1:=⟨fuel - 1,by omega⟩
   rw [List.append_nil] at e
   have ht:(l.takeWhile fun y=>decide (y.1 < x.1))=A:=by rw [e];exact tw_all (fun y hy=>by simpa using hA y hy)
   simp only [iterP,l84_0,l84_0_b]
   rw [show (l.length:Int)=((A.length:Nat):Int) by rw [e],ltn,oif_f]
   rw [ht] at fin;exact fin
  | cons z B ih =>
   intro A fuel e hA hf
   obtain ⟨g,rfl⟩:∃ g,fuel=g+1:=⟨fuel - 1,by omega⟩
   have hlt:A.length < l.length:=by rw [e];simp
   have hg:l[A.length]? = some z:=by rw [e];simp
   simp only [iterP,l84_0,l84_0_b]
   rw [decide_eq_true (show ((A.length:Nat):Int) < ((l.length:Nat):Int) by omega),oif_t,nn,oif_t,ofNat_toNat,hg,ob_s]
   by_cases hz:z.1 < x.1
   ·rw [decide_eq_true hz,oif_t,wr1 (by omega)]
    have:=ih (A++[z]) g (by rw [e];simp) (fun y hy=>by
     rcases List.mem_append.1 hy with h | h
     ·exact hA y h
     ·simp at h;subst h;exact hz) (by simpa using hf)
    rw [List.length_append] at this
    exact this
   ·rw [decide_eq_false hz,oif_f]
    have ht:(l.takeWhile fun y=>decide (y.1 < x.1))=A:=by
     rw [e,List.takeWhile_append_of_pos (fun y hy=>by simpa using hA y hy),List.takeWhile_cons,if_neg (by simpa using hz),List.append_nil]
    rw [ht] at fin;exact fin
 exact key l [] fuelN rfl (by simp) (by rw [fuelN_eq];omega)
theorem q_loBack {d:Nat} {x:Ld} (hl:x.2.1.length≤1000) (hf:x.2.2.2.2.2.2.1.length≤1000):g46 (d+2) x=some (unV x):=by
 rw [e46,room (by simp;omega),oif_t,List.nil_append]
 refine (range_eq (fun (t:List Cl8) (i:Int)=>(i,((x.1,t,x.2.2.2.2.2.2.1,0):Cf))) x.2.1 (fun y _ t k=>obind (g84 (d+1) t y) fun r=>k r) (fun t=>j46_0 (d+1) x x.1 0 t x.2.2.2.2.2.2.1) ?_ ?_ (by rw [fuelN_eq];omega) []).trans ?_
 ·intro ag t i y hx
  have hi:=(List.getElem?_eq_some_iff.1 hx).1
  simp only [l46_0,l46_0_b,ltl hx,nn,ofNat_toNat,hx,ob_s,oif_t]
  rw [wr1 (by omega)]
 ·intro ag t;simp only [l46_0,l46_0_b,ltn,oif_f]
 ·rw [rangeR_foldI (f:=fun y _ t=>putV t y) (fun k t=>t.length=k) x.2.1 0 [] rfl (fun j y t k hy ht=>by
   have hj:=(List.getElem?_eq_some_iff.1 hy).1
   rw [q_cfPut (by omega),ob_s]
   exact ⟨rfl,by rw [putV_len];omega⟩)]
  unfold j46_0
  rw [q_l1In,ob_s]
  show _=some (x.1,insV x.2.1,x.2.2.2.2.2.2.1,dfL x)
  unfold dfL
  rw [wr (by omega) (by omega)]
  by_cases h:0≤x.2.2.2.2.2.2.2.2∧x.2.2.2.2.2.2.2.2 < ((x.2.1.length:Nat):Int)
  ·rw [if_pos h,decide_eq_true (show 0≤x.2.2.2.2.2.2.2.2∧x.2.2.2.2.2.2.2.2≤((x.2.1.length:Nat):Int) - 1 by omega),oif_t,decide_eq_true h.1,oif_t,get_clAt h.1 h.2,ob_s]
   rfl
  ·rw [if_neg h,decide_eq_false (show ¬ (0≤x.2.2.2.2.2.2.2.2∧x.2.2.2.2.2.2.2.2≤((x.2.1.length:Nat):Int) - 1) by omega),oif_f]
   rfl
theorem all_same {α:Type} [DecidableEq α]:∀ {a b:List α} {i:Nat} {c:List α},i=c.length→a.length=b.length→allI (fun x j=>decide ((c++b)[j]? = some x)) a i=decide (a=b)
 | [],[],i,c,_,_=>by simp [allI]
 | x::a,y::b,i,c,hi,h=>by
  subst hi
  have h1:(c++y::b)[c.length]? = some y:=by simp
  have ih:=all_same (a:=a) (b:=b) (i:=c.length+1) (c:=c++[y]) (by simp) (by simpa using h)
  rw [show c++[y]++b=c++y::b by simp] at ih
  simp only [allI]
  rw [ih,h1]
  by_cases hxy:x=y
  ·subst hxy;simp
  ·rw [decide_eq_false (show ¬ some y=some x by simp;exact fun e=>hxy e.symm),Bool.false_and,decide_eq_false (by simp [hxy])]
 | [],_::_,_,_,_,h=>by simp at h
 | _::_,[],_,_,_,h=>by simp at h
theorem q_eqI {d:Nat} {a b:List Int} (hl:a.length < 4000000):g90 (d+1) a b=some (decide (a=b)):=by
 rw [e90]
 by_cases h:a.length=b.length
 case neg=>rw [show ((((a.length:Nat):Int)) != ((b.length:Nat):Int))=true by simp;omega,oif_t,decide_eq_false (fun e=>h (by rw [e]))]
 rw [show ((((a.length:Nat):Int)) != ((b.length:Nat):Int))=false by simp;omega,oif_f]
 refine (range_eq (fun (t:Bool) (i:Int)=>(t,i)) a (fun x i t k=>oif (decide (([]++b)[i]? = some x)) (k t) (some false)) (fun _=>some true) ?_ ?_ (by rw [fuelN_eq];omega) false).trans ?_
 ·intro ag t i x hx;have hi:=(List.getElem?_eq_some_iff.1 hx).1;simp only [l90_0,l90_0_b,ltl hx,nn,ofNat_toNat,hx,ob_s,oif_t];rw [wr1 (by omega)]
  have hb:i < b.length:=by omega
  rw [List.nil_append,List.getElem?_eq_getElem hb,ob_s]
  by_cases hxy:x=b[i]
  ·rw [show (x != b[i])=false by simp [hxy],oif_f,decide_eq_true (by rw [hxy]),oif_t]
  ·rw [show (x != b[i])=true by simp [hxy],oif_t,decide_eq_false (show ¬ some b[i]=some x by simp;exact fun e=>hxy e.symm),oif_f]
 ·intro ag t;simp only [l90_0,l90_0_b,ltn,oif_f];rfl
 ·rw [rangeR_allI,all_same (i:=0) (c:=[]) rfl h];cases decide (a=b)<;>rfl
theorem q_l1Same {d:Nat} {a b:List Int} (hl:a.length < 4000000):g117 (d+1) a b=some (decide (a=b)):=by
 rw [e117]
 by_cases h:a.length=b.length
 case neg=>rw [show ((((a.length:Nat):Int)) != ((b.length:Nat):Int))=true by simp;omega,oif_t,decide_eq_false (fun e=>h (by rw [e]))]
 rw [show ((((a.length:Nat):Int)) != ((b.length:Nat):Int))=false by simp;omega,oif_f]
 refine (range_eq (fun (t:Bool) (i:Int)=>(t,i)) a (fun x i t k=>oif (decide (([]++b)[i]? = some x)) (k t) (some false)) (fun _=>some true) ?_ ?_ (by rw [fuelN_eq];omega) false).trans ?_
 ·intro ag t i x hx;have hi:=(List.getElem?_eq_some_iff.1 hx).1;simp only [l117_0,l117_0_b,ltl hx,nn,ofNat_toNat,hx,ob_s,oif_t];rw [wr1 (by omega)]
  have hb:i < b.length:=by omega
  rw [List.nil_append,List.getElem?_eq_getElem hb,ob_s]
  by_cases hxy:x=b[i]
  ·rw [show (x != b[i])=false by simp [hxy],oif_f,decide_eq_true (by rw [hxy]),oif_t]
  ·rw [show (x != b[i])=true by simp [hxy],oif_t,decide_eq_false (show ¬ some b[i]=some x by simp;exact fun e=>hxy e.symm),oif_f]
 ·intro ag t;simp only [l117_0,l117_0_b,ltn,oif_f];rfl
 ·rw [rangeR_allI,all_same (i:=0) (c:=[]) rfl h];cases decide (a=b)<;>rfl
theorem cl_beq {x y:Cl8}:((x.1==y.1)&&((x.2.1==y.2.1)&&((x.2.2.1==y.2.2.1)&&((x.2.2.2.1==y.2.2.2.1)&&((x.2.2.2.2.1==y.2.2.2.2.1)&&((x.2.2.2.2.2.1==y.2.2.2.2.2.1)&&((x.2.2.2.2.2.2.1==y.2.2.2.2.2.2.1)&&((x.2.2.2.2.2.2.2==y.2.2.2.2.2.2.2)&&true))))))))=decide (x=y):=by
 obtain ⟨x1,x2,x3,x4,x5,x6,x7,x8⟩:=x
 obtain ⟨y1,y2,y3,y4,y5,y6,y7,y8⟩:=y
 rw [Bool.eq_iff_iff];simp
theorem fl_beq {x y:Fl5}:((x.1==y.1)&&((x.2.1==y.2.1)&&((x.2.2.1==y.2.2.1)&&((x.2.2.2.1==y.2.2.2.1)&&((x.2.2.2.2==y.2.2.2.2)&&true)))))=decide (x=y):=by
 obtain ⟨x1,x2,x3,x4,x5⟩:=x
 obtain ⟨y1,y2,y3,y4,y5⟩:=y
 rw [Bool.eq_iff_iff];simp
theorem q_eqC {d:Nat} {a b:List Cl8} (hl:a.length < 4000000):g89 (d+1) a b=some (decide (a=b)):=by
 rw [e89]
 by_cases h:a.length=b.length
 case neg=>rw [show ((((a.length:Nat):Int)) != ((b.length:Nat):Int))=true by simp;omega,oif_t,decide_eq_false (fun e=>h (by rw [e]))]
 rw [show ((((a.length:Nat):Int)) != ((b.length:Nat):Int))=false by simp;omega,oif_f]
 refine (range_eq (fun (t:Bool) (i:Int)=>(t,i)) a (fun x i t k=>oif (decide (([]++b)[i]? = some x)) (k t) (some false)) (fun _=>some true) ?_ ?_ (by rw [fuelN_eq];omega) false).trans ?_
 ·intro ag t i x hx;have hi:=(List.getElem?_eq_some_iff.1 hx).1;simp only [l89_0,l89_0_b,ltl hx,nn,ofNat_toNat,hx,ob_s,oif_t];rw [wr1 (by omega)]
  have hb:i < b.length:=by omega
  rw [List.nil_append,List.getElem?_eq_getElem hb,ob_s,cl_beq]
  by_cases hxy:x=b[i]
  ·rw [decide_eq_true hxy,Bool.not_true,oif_f,decide_eq_true (by rw [hxy]),oif_t]
  ·rw [decide_eq_false hxy,Bool.not_false,oif_t,decide_eq_false (show ¬ some b[i]=some x by simp;exact fun e=>hxy e.symm),oif_f]
 ·intro ag t;simp only [l89_0,l89_0_b,ltn,oif_f];rfl
 ·rw [rangeR_allI,all_same (i:=0) (c:=[]) rfl h];cases decide (a=b)<;>rfl
def smB (x y:Ld):Bool:=decide (x.2.1=y.2.1)&&(decide (x.2.2.1=y.2.2.1)&&(decide (x.2.2.2.1=y.2.2.2.1)&&(decide (x.2.2.2.2.1=y.2.2.2.2.1)&&(decide (x.2.2.2.2.2.1=y.2.2.2.2.2.1)&&(decide (x.2.2.2.2.2.2.2.1=y.2.2.2.2.2.2.2.1)&&(x.2.2.2.2.2.2.2.2==y.2.2.2.2.2.2.2.2))))))
def lgB (x:Ld):Bool:=decide (x.2.1.length≤24∧x.2.2.2.2.2.2.1.length≤16)&&(gdB (unV x)&&smB x (ldV (unV x)))
def ldSz (x:Ld):Prop:=x.1.size < 4000000∧x.2.1.length < 4000000∧x.2.2.1.length < 4000000∧x.2.2.2.1.length < 4000000∧x.2.2.2.2.1.length < 4000000∧x.2.2.2.2.2.1.length < 4000000∧x.2.2.2.2.2.2.1.length < 4000000∧x.2.2.2.2.2.2.2.1.length < 4000000
theorem q_IsLoaded {d:Nat} {x:Ld} (h:ldSz x):g49 (d+27) x=some (lgB x):=by
 obtain ⟨z1,z2,z3,z4,z5,z6,z7,z8⟩:=h
 rw [e49]
 unfold j49_0 lgB
 by_cases h1:x.2.1.length≤24
 case neg=>rw [decide_eq_true (show ((x.2.1.length:Nat):Int) > 24 by omega),oif_t,oif_t,decide_eq_false (fun h=>h1 h.1)];rfl
 rw [decide_eq_false (show ¬ ((x.2.1.length:Nat):Int) > 24 by omega),oif_f]
 by_cases h2:x.2.2.2.2.2.2.1.length≤16
 case neg=>rw [decide_eq_true (show ((x.2.2.2.2.2.2.1.length:Nat):Int) > 16 by omega),oif_t,decide_eq_false (fun h=>h2 h.2)];rfl
 rw [decide_eq_false (show ¬ ((x.2.2.2.2.2.2.1.length:Nat):Int) > 16 by omega),oif_f,decide_eq_true ⟨h1,h2⟩,Bool.true_and]
 obtain ⟨c,hc,c1,c2,c3,c4⟩:=p_unload (d:=d) (x:=x) (by omega) (by omega)
 obtain ⟨u1,u2⟩:=un_eq c1 c2 c3 c4
 have hcl:=c2.len
 rw [hc,ob_s,show d+26=(d+18)+8 by omega,q_IsConfig (by omega) (by rw [c3];omega),ob_s,u1]
 cases hg:gdB (unV x) with
 | false=>rfl
 | true =>
  have e:=u2 hg
  subst e
  rw [Bool.not_true,oif_f,show d+18+8=(d+12)+14 by omega,q_loadConfig (gd_of hg),ob_s,Bool.true_and]
  unfold smB
  rw [show d+12+14=(d+25)+1 by omega,q_eqC (by omega),ob_s]
  cases decide (x.2.1=(ldV (unV x)).2.1) with
  | false=>rfl
  | true =>
  rw [oif_t,q_eqI (by omega),ob_s]
  cases decide (x.2.2.1=(ldV (unV x)).2.2.1) with
  | false=>rfl
  | true =>
  rw [oif_t,q_eqI (by omega),ob_s]
  cases decide (x.2.2.2.1=(ldV (unV x)).2.2.2.1) with
  | false=>rfl
  | true =>
  rw [oif_t,q_eqI (by omega),ob_s]
  cases decide (x.2.2.2.2.1=(ldV (unV x)).2.2.2.2.1) with
  | false=>rfl
  | true =>
  rw [oif_t,q_eqI (by omega),ob_s]
  cases decide (x.2.2.2.2.2.1=(ldV (unV x)).2.2.2.2.2.1) with
  | false=>rfl
  | true =>
  rw [oif_t,q_eqI (by omega),ob_s]
  cases decide (x.2.2.2.2.2.2.2.1=(ldV (unV x)).2.2.2.2.2.2.2.1) with
  | false=>rfl
  | true=>rw [oif_t];rfl
theorem q_loSame {d:Nat} {u y:Ld} (h:ldSz u) (hn:u.1=y.1) (hf:u.2.2.2.2.2.2.1=y.2.2.2.2.2.2.1):g82 (d+2) u y=some (smB u y):=by
 obtain ⟨z1,z2,z3,z4,z5,z6,z7,z8⟩:=h
 rw [e82,bl_eq,decide_eq_true (by rw [hn]),Bool.not_true,oif_f]
 unfold j82_2 smB
 by_cases hc:u.2.1.length=y.2.1.length
 case neg=>rw [show ((((u.2.1.length:Nat):Int)) != ((y.2.1.length:Nat):Int))=true by simp;omega,oif_t,oif_t,decide_eq_false (fun e=>hc (by rw [e]))];rfl
 rw [show ((((u.2.1.length:Nat):Int)) != ((y.2.1.length:Nat):Int))=false by simp;omega,oif_f,show ((((u.2.2.2.2.2.2.1.length:Nat):Int)) != ((y.2.2.2.2.2.2.1.length:Nat):Int))=false by rw [hf];simp,oif_f]
 by_cases hd:u.2.2.2.2.2.2.2.2=y.2.2.2.2.2.2.2.2
 case neg=>rw [show (u.2.2.2.2.2.2.2.2 != y.2.2.2.2.2.2.2.2)=true by simp [hd],oif_t,show (u.2.2.2.2.2.2.2.2==y.2.2.2.2.2.2.2.2)=false by simp [hd]];simp
 rw [show (u.2.2.2.2.2.2.2.2 != y.2.2.2.2.2.2.2.2)=false by simp [hd],oif_f,show (u.2.2.2.2.2.2.2.2==y.2.2.2.2.2.2.2.2)=true by simp [hd],Bool.and_true]
 refine (range_eq (fun (t:Bool) (i:Int)=>(t,i)) u.2.1 (fun z i t k=>oif (decide (([]++y.2.1)[i]? = some z)) (k t) (some false)) (fun t=>j82_1 (d+1) u y t) ?_ ?_ (by rw [fuelN_eq];omega) false).trans ?_
 ·intro ag t i x hx;have hi:=(List.getElem?_eq_some_iff.1 hx).1;simp only [l82_0,l82_0_b,ltl hx,nn,ofNat_toNat,hx,ob_s,oif_t];rw [wr1 (by omega)]
  have hb:i < y.2.1.length:=by omega
  rw [List.nil_append,List.getElem?_eq_getElem hb,ob_s,cl_beq]
  by_cases hxy:x=y.2.1[i]
  ·rw [decide_eq_true hxy,Bool.not_true,oif_f,decide_eq_true (by rw [hxy]),oif_t]
  ·rw [decide_eq_false hxy,Bool.not_false,oif_t,decide_eq_false (show ¬ some y.2.1[i]=some x by simp;exact fun e=>hxy e.symm),oif_f]
 ·intro ag t;simp only [l82_0,l82_0_b,ltn,oif_f]
 ·rw [rangeR_allI,all_same (i:=0) (c:=[]) rfl hc]
  cases decide (u.2.1=y.2.1) with
  | false=>rfl
  | true =>
  rw [oif_t,Bool.true_and]
  unfold j82_1
  have hfl:u.2.2.2.2.2.2.1.length=y.2.2.2.2.2.2.1.length:=by rw [hf]
  refine (range_eq (fun (t:Bool) (i:Int)=>(t,i)) u.2.2.2.2.2.2.1 (fun z i t k=>oif (decide (([]++y.2.2.2.2.2.2.1)[i]? = some z)) (k t) (some false)) (fun t=>j82_0 (d+1) u y t) ?_ ?_ (by rw [fuelN_eq];omega) false).trans ?_
  ·intro ag t i x hx;have hi:=(List.getElem?_eq_some_iff.1 hx).1;simp only [l82_1,l82_1_b,ltl hx,nn,ofNat_toNat,hx,ob_s,oif_t];rw [wr1 (by omega)]
   have hb:i < y.2.2.2.2.2.2.1.length:=by omega
   rw [List.nil_append,List.getElem?_eq_getElem hb,ob_s,fl_beq]
   by_cases hxy:x=y.2.2.2.2.2.2.1[i]
   ·rw [decide_eq_true hxy,Bool.not_true,oif_f,decide_eq_true (by rw [hxy]),oif_t]
   ·rw [decide_eq_false hxy,Bool.not_false,oif_t,decide_eq_false (show ¬ some y.2.2.2.2.2.2.1[i]=some x by simp;exact fun e=>hxy e.symm),oif_f]
  ·intro ag t;simp only [l82_1,l82_1_b,ltn,oif_f]
  ·rw [rangeR_allI,all_same (i:=0) (c:=[]) rfl hfl,decide_eq_true hf,oif_t]
   unfold j82_0
   rw [q_l1Same (by omega),ob_s]
   cases decide (u.2.2.1=y.2.2.1) with
   | false=>rfl
   | true =>
   rw [oif_t,q_l1Same (by omega),ob_s]
   cases decide (u.2.2.2.1=y.2.2.2.1) with
   | false=>rfl
   | true =>
   rw [oif_t,q_l1Same (by omega),ob_s]
   cases decide (u.2.2.2.2.1=y.2.2.2.2.1) with
   | false=>rfl
   | true =>
   rw [oif_t,q_l1Same (by omega),ob_s]
   cases decide (u.2.2.2.2.2.1=y.2.2.2.2.2.1) with
   | false=>rfl
   | true=>rw [oif_t,q_l1Same (by omega),ob_s];rfl
theorem q_loGood {d:Nat} {x:Ld} (h:ldSz x):g45 (d+11) x=some (lgB x):=by
 have h':=h
 obtain ⟨z1,z2,z3,z4,z5,z6,z7,z8⟩:=h
 rw [e45]
 unfold j45_0 lgB
 by_cases h1:x.2.1.length≤24
 case neg=>rw [decide_eq_true (show ((x.2.1.length:Nat):Int) > 24 by omega),oif_t,oif_t,decide_eq_false (fun h=>h1 h.1)];rfl
 rw [decide_eq_false (show ¬ ((x.2.1.length:Nat):Int) > 24 by omega),oif_f]
 by_cases h2:x.2.2.2.2.2.2.1.length≤16
 case neg=>rw [decide_eq_true (show ((x.2.2.2.2.2.2.1.length:Nat):Int) > 16 by omega),oif_t,decide_eq_false (fun h=>h2 h.2)];rfl
 rw [decide_eq_false (show ¬ ((x.2.2.2.2.2.2.1.length:Nat):Int) > 16 by omega),oif_f,decide_eq_true ⟨h1,h2⟩,Bool.true_and]
 rw [show d+10=(d+8)+2 by omega,q_loBack (by omega) (by omega),ob_s,show d+8+2=(d+5)+5 by omega,q_cfGood (c:=unV x) z1 (show x.2.2.2.2.2.2.1.length < 4000000 by omega),ob_s]
 cases hg:gdB (unV x) with
 | false=>rfl
 | true=>rw [oif_t,show d+5+5=d+10 by omega,q_loLoad (gd_of hg),ob_s,show d+10=(d+8)+2 by omega,q_loSame (y:=ldV (unV x)) h' rfl rfl,ob_s,Bool.true_and]
theorem set_next {α:Type} {l:List α} {z x:α} {k:Nat} (hx:l[k]? = some x):(l.take k++List.replicate (l.length - k) z).set k x=l.take (k+1)++List.replicate (l.length - (k+1)) z:=by
 have hk:=(List.getElem?_eq_some_iff.1 hx).1
 have e:=(List.getElem?_eq_some_iff.1 hx).2
 have hl:(l.take k).length=k:=by rw [List.length_take];omega
 rw [List.set_append_right _ _ (by omega),hl,Nat.sub_self,show l.length - k=(l.length - (k+1))+1 by omega,List.replicate_succ,List.set_cons_zero,List.take_succ_eq_append_getElem hk,e]
 simp
theorem q_toClassS {d:Nat} {l:List Cl8} (hl:l.length≤1048576):g47 (d+2) l=some l:=by
 rw [e47,nn,oif_t,oif_t,ofNat_toNat,show (Nat.ble l.length l.length&&Nat.ble (l.length*64) roomMax)=true by rw [Bool.and_eq_true,Nat.ble_eq,Nat.ble_eq];unfold roomMax;omega,oif_t]
 refine Ok.val (iter_ok (fun j (s:Int×List Cl8)=>∃ k:Nat,k+j=l.length∧s.1=(k:Int)∧s.2=l.take k++List.replicate (l.length - k) ((0,0,0,0,0,0,0,0):Cl8)) ?_ _ l.length _ (by rw [fuelN_eq];omega) ⟨0,by omega,rfl,by simp⟩)
 rintro j ⟨n,r⟩ ag ⟨k,hk,h1,h2⟩ hag
 simp only at h1 h2
 subst h1
 have hrl:r.length=l.length:=by rw [h2];simp;omega
 simp only [l47_0,l47_0_b]
 rcases Nat.lt_or_ge k l.length with hlt | hge
 ·have hx:=List.getElem?_eq_getElem hlt
  rw [ltl hx,oif_t,nn,oif_t,ofNat_toNat,hx,ob_s,e85,ob_s,oif_t,blt_of (by omega),oif_t,List.getElem?_eq_getElem (by omega),ob_s,wr1 (by omega)]
  exact hag (j - 1) _ (by omega) ⟨k+1,by omega,rfl,by rw [h2];exact set_next hx⟩
 ·have:k=l.length:=by omega
  subst this
  rw [ltn,oif_f]
  unfold j47_0
  exact Ok.some (by rw [h2];simp)
theorem q_toFilterS {d:Nat} {l:List Fl5} (hl:l.length≤1048576):g48 (d+2) l=some l:=by
 rw [e48,nn,oif_t,oif_t,ofNat_toNat,show (Nat.ble l.length l.length&&Nat.ble (l.length*40) roomMax)=true by rw [Bool.and_eq_true,Nat.ble_eq,Nat.ble_eq];unfold roomMax;omega,oif_t]
 refine Ok.val (iter_ok (fun j (s:Int×List Fl5)=>∃ k:Nat,k+j=l.length∧s.1=(k:Int)∧s.2=l.take k++List.replicate (l.length - k) ((0,0,0,0,0):Fl5)) ?_ _ l.length _ (by rw [fuelN_eq];omega) ⟨0,by omega,rfl,by simp⟩)
 rintro j ⟨n,r⟩ ag ⟨k,hk,h1,h2⟩ hag
 simp only at h1 h2
 subst h1
 have hrl:r.length=l.length:=by rw [h2];simp;omega
 simp only [l48_0,l48_0_b]
 rcases Nat.lt_or_ge k l.length with hlt | hge
 ·have hx:=List.getElem?_eq_getElem hlt
  rw [ltl hx,oif_t,nn,oif_t,ofNat_toNat,hx,ob_s,e86,ob_s,oif_t,blt_of (by omega),oif_t,List.getElem?_eq_getElem (by omega),ob_s,wr1 (by omega)]
  exact hag (j - 1) _ (by omega) ⟨k+1,by omega,rfl,by rw [h2];exact set_next hx⟩
 ·have:k=l.length:=by omega
  subst this
  rw [ltn,oif_f]
  unfold j48_0
  exact Ok.some (by rw [h2];simp)
theorem q_toIntS {d:Nat} {l:List Int} (hl:l.length≤1048576):g38 (d+1) l=some l:=by
 rw [e38,nn,oif_t,oif_t,ofNat_toNat,show (Nat.ble l.length l.length&&Nat.ble (l.length*8) roomMax)=true by rw [Bool.and_eq_true,Nat.ble_eq,Nat.ble_eq];unfold roomMax;omega,oif_t]
 refine Ok.val (iter_ok (fun j (s:Int×List Int)=>∃ k:Nat,k+j=l.length∧s.1=(k:Int)∧s.2=l.take k++List.replicate (l.length - k) (0:Int)) ?_ _ l.length _ (by rw [fuelN_eq];omega) ⟨0,by omega,rfl,by simp⟩)
 rintro j ⟨n,r⟩ ag ⟨k,hk,h1,h2⟩ hag
 simp only at h1 h2
 subst h1
 have hrl:r.length=l.length:=by rw [h2];simp;omega
 simp only [l38_0,l38_0_b]
 rcases Nat.lt_or_ge k l.length with hlt | hge
 ·have hx:=List.getElem?_eq_getElem hlt
  rw [ltl hx,oif_t,nn,oif_t,ofNat_toNat,hx,ob_s,oif_t,blt_of (by omega),oif_t,List.getElem?_eq_getElem (by omega),ob_s,wr1 (by omega)]
  exact hag (j - 1) _ (by omega) ⟨k+1,by omega,rfl,by rw [h2];exact set_next hx⟩
 ·have:k=l.length:=by omega
  subst this
  rw [ltn,oif_f]
  unfold j38_0
  exact Ok.some (by rw [h2];simp)
def szQ (n:Int) (k:Nat) (r:Int):Prop:=r < 0∨(0≤r∧r≤n∧(k:Int)≤n)
theorem p_szClassS {d:Nat} {l:List Cl8} {n:Int} (h0:0≤n) (h1:n≤1048576) (hl:l.length≤9223372036854775807):Ok (g42 (d+1) l n) fun r=>szQ n l.length r:=by
 rw [e42,wr (by omega) (by omega)]
 by_cases h:n - ((l.length:Nat):Int) < 0
 ·rw [decide_eq_true h,oif_t];exact Ok.some (Or.inl (by omega))
 ·rw [decide_eq_false h,oif_f];exact Ok.some (Or.inr ⟨by omega,by omega,by omega⟩)
theorem p_szFilterS {d:Nat} {l:List Fl5} {n:Int} (h0:0≤n) (h1:n≤1048576) (hl:l.length≤9223372036854775807):Ok (g44 (d+1) l n) fun r=>szQ n l.length r:=by
 rw [e44,wr (by omega) (by omega)]
 by_cases h:n - ((l.length:Nat):Int) < 0
 ·rw [decide_eq_true h,oif_t];exact Ok.some (Or.inl (by omega))
 ·rw [decide_eq_false h,oif_f];exact Ok.some (Or.inr ⟨by omega,by omega,by omega⟩)
theorem p_szIntS {d:Nat} {l:List Int} {n:Int} (h0:0≤n) (h1:n≤1048576) (hl:l.length≤9223372036854775807):Ok (g43 (d+1) l n) fun r=>szQ n l.length r:=by
 rw [e43,wr (by omega) (by omega)]
 by_cases h:n - ((l.length:Nat):Int) < 0
 ·rw [decide_eq_true h,oif_t];exact Ok.some (Or.inl (by omega))
 ·rw [decide_eq_false h,oif_f];exact Ok.some (Or.inr ⟨by omega,by omega,by omega⟩)
theorem q_eqClassS {d:Nat} {l:List Cl8} (hl:l.length≤2000000):g51 (d+2) l l=some true:=by
 rw [e51,bne_self_eq_false,oif_f]
 refine (range_eq (fun (t:Bool) (i:Int)=>(t,i)) l (fun x i t k=>k t) (j51_0 (d+1)) ?_ ?_ (by rw [fuelN_eq];omega) false).trans ?_
 ·intro ag t i x hx;have hi:=(List.getElem?_eq_some_iff.1 hx).1;simp only [l51_0,l51_0_b,ltl hx,nn,ofNat_toNat,hx,ob_s,oif_t]
  rw [e96]
  simp only [bne_self_eq_false,oif_f,Bool.not_true,ob_s]
  rw [wr1 (by omega)]
 ·intro ag t;simp only [l51_0,l51_0_b,ltn,oif_f]
 ·rw [rangeR_fold (f:=fun _ _ t=>t)];rfl
theorem q_eqFilterS {d:Nat} {l:List Fl5} (hl:l.length≤2000000):g52 (d+2) l l=some true:=by
 rw [e52,bne_self_eq_false,oif_f]
 refine (range_eq (fun (t:Bool) (i:Int)=>(t,i)) l (fun x i t k=>k t) (j52_0 (d+1)) ?_ ?_ (by rw [fuelN_eq];omega) false).trans ?_
 ·intro ag t i x hx;have hi:=(List.getElem?_eq_some_iff.1 hx).1;simp only [l52_0,l52_0_b,ltl hx,nn,ofNat_toNat,hx,ob_s,oif_t]
  rw [e97]
  simp only [bne_self_eq_false,oif_f,Bool.not_true,ob_s]
  rw [wr1 (by omega)]
 ·intro ag t;simp only [l52_0,l52_0_b,ltn,oif_f]
 ·rw [rangeR_fold (f:=fun _ _ t=>t)];rfl
theorem q_eqIntS {d:Nat} {l:List Int} (hl:l.length≤2000000):g29 (d+1) l l=some true:=by
 rw [e29,bne_self_eq_false,oif_f]
 refine (range_eq (fun (t:Bool) (i:Int)=>(t,i)) l (fun x i t k=>k t) (j29_0 d) ?_ ?_ (by rw [fuelN_eq];omega) false).trans ?_
 ·intro ag t i x hx;have hi:=(List.getElem?_eq_some_iff.1 hx).1;simp only [l29_0,l29_0_b,ltl hx,nn,ofNat_toNat,hx,ob_s,oif_t]
  simp only [bne_self_eq_false,oif_f]
  rw [wr1 (by omega)]
 ·intro ag t;simp only [l29_0,l29_0_b,ltn,oif_f]
 ·rw [rangeR_fold (f:=fun _ _ t=>t)];rfl
def ldL (x:Ld):Prop:=x.1.size≤1048576∧x.2.1.length≤1048576∧x.2.2.1.length≤1048576∧x.2.2.2.1.length≤1048576∧x.2.2.2.2.1.length≤1048576∧x.2.2.2.2.2.1.length≤1048576∧x.2.2.2.2.2.2.1.length≤1048576∧x.2.2.2.2.2.2.2.1.length≤1048576
theorem q_eqLoaded {d:Nat} {x:Ld} (h:ldL x):g14 (d+3) x x=some true:=by
 obtain ⟨z1,z2,z3,z4,z5,z6,z7,z8⟩:=h
 rw [e14,beq_self_eq_true,Bool.not_true,oif_f,q_eqClassS (by omega),ob_s,Bool.not_true,oif_f,q_eqIntS (by omega),ob_s,Bool.not_true,oif_f,q_eqIntS (by omega),ob_s,Bool.not_true,oif_f,q_eqIntS (by omega),ob_s,Bool.not_true,oif_f,q_eqIntS (by omega),ob_s,Bool.not_true,oif_f,q_eqFilterS (by omega),ob_s,Bool.not_true,oif_f,q_eqIntS (by omega),ob_s,Bool.not_true,oif_f,bne_self_eq_false,oif_f]
theorem q_toLoaded {d:Nat} {x:Ld} (h:ldL x):g11 (d+3) x=some x:=by
 obtain ⟨z1,z2,z3,z4,z5,z6,z7,z8⟩:=h
 rw [e11,q_toClassS z2,ob_s,q_toIntS z3,ob_s,q_toIntS z4,ob_s,q_toIntS z5,ob_s,q_toIntS z6,ob_s,q_toFilterS z7,ob_s,q_toIntS z8,ob_s]
def ldW (x:Ld):Prop:=x.1.size≤9223372036854775807∧x.2.1.length≤9223372036854775807∧x.2.2.1.length≤9223372036854775807∧x.2.2.2.1.length≤9223372036854775807∧x.2.2.2.2.1.length≤9223372036854775807∧x.2.2.2.2.2.1.length≤9223372036854775807∧x.2.2.2.2.2.2.1.length≤9223372036854775807∧x.2.2.2.2.2.2.2.1.length≤9223372036854775807
theorem p_szLoaded {d:Nat} {x:Ld} {n:Int} (h0:0≤n) (h1:n≤1048576) (h:ldW x):Ok (g9 (d+2) x n) fun r=>r < 0∨(0≤r∧r≤n∧ldL x):=by
 obtain ⟨z1,z2,z3,z4,z5,z6,z7,z8⟩:=h
 have no:Ok (some (-1:Int)) fun r=>r < 0∨(0≤r∧r≤n∧ldL x):=Ok.some (Or.inl (by omega))
 rw [e9,wr (by omega) (by omega)]
 refine Ok.oif (fun _=>no) (fun hs=>?_)
 simp only [decide_eq_false_iff_not] at hs
 refine Ok.bind (p_szClassS (by omega) (by omega) z2) fun r3 g3=>?_
 refine Ok.oif (fun _=>no) (fun hs3=>?_)
 simp only [decide_eq_false_iff_not] at hs3
 have g3:=g3.resolve_left hs3
 refine Ok.bind (p_szIntS (by omega) (by omega) z3) fun r4 g4=>?_
 refine Ok.oif (fun _=>no) (fun hs4=>?_)
 simp only [decide_eq_false_iff_not] at hs4
 have g4:=g4.resolve_left hs4
 refine Ok.bind (p_szIntS (by omega) (by omega) z4) fun r5 g5=>?_
 refine Ok.oif (fun _=>no) (fun hs5=>?_)
 simp only [decide_eq_false_iff_not] at hs5
 have g5:=g5.resolve_left hs5
 refine Ok.bind (p_szIntS (by omega) (by omega) z5) fun r6 g6=>?_
 refine Ok.oif (fun _=>no) (fun hs6=>?_)
 simp only [decide_eq_false_iff_not] at hs6
 have g6:=g6.resolve_left hs6
 refine Ok.bind (p_szIntS (by omega) (by omega) z6) fun r7 g7=>?_
 refine Ok.oif (fun _=>no) (fun hs7=>?_)
 simp only [decide_eq_false_iff_not] at hs7
 have g7:=g7.resolve_left hs7
 refine Ok.bind (p_szFilterS (by omega) (by omega) z7) fun r8 g8=>?_
 refine Ok.oif (fun _=>no) (fun hs8=>?_)
 simp only [decide_eq_false_iff_not] at hs8
 have g8:=g8.resolve_left hs8
 refine Ok.bind (p_szIntS (by omega) (by omega) z8) fun r9 g9=>?_
 refine Ok.oif (fun _=>no) (fun hs9=>?_)
 simp only [decide_eq_false_iff_not] at hs9
 have g9:=g9.resolve_left hs9
 exact Ok.some (Or.inr ⟨by omega,by omega,by omega,by omega,by omega,by omega,by omega,by omega,by omega,by omega⟩)
theorem ldL.sz {x:Ld} (h:ldL x):ldSz x:=by
 obtain ⟨z1,z2,z3,z4,z5,z6,z7,z8⟩:=h
 exact ⟨by omega,by omega,by omega,by omega,by omega,by omega,by omega,by omega⟩
def mC (k:Nat):Cl8:=((k:Int),((k+1:Nat):Int),((k+1+1:Nat):Int),((k+1+1+1:Nat):Int),((k+1+1+1+1:Nat):Int),((k+1+1+1+1+1:Nat):Int),((k+1+1+1+1+1+1:Nat):Int),((k+1+1+1+1+1+1+1:Nat):Int))
def mF (k:Nat):Fl5:=((k:Int),((k+1:Nat):Int),((k+1+1:Nat):Int),((k+1+1+1:Nat):Int),((k+1+1+1+1:Nat):Int))
def mCs:Nat→Nat→List Cl8
 | _,0=>[]
 | k,n+1=>mC k::mCs (k+1+1+1+1+1+1+1+1) n
def mFs:Nat→Nat→List Fl5
 | _,0=>[]
 | k,n+1=>mF k::mFs (k+1+1+1+1+1) n
theorem set_mid {α:Type} {p r:List α} {x y:α}:(p++x::r).set p.length y=p++y::r:=by
 rw [List.set_append_right _ _ (Nat.le_refl _),Nat.sub_self,List.set_cons_zero]
theorem mark_c {d:Nat}:∀ (r:List Cl8) {p:List Cl8} {k fuel:Nat},r.length < fuel→p.length+r.length≤2000000→k+8*r.length≤1000000000 →
  iterP (l53_0 d (j53_0 d)) fuel ((k:Int),((p.length:Nat):Int),p++r)=some (((k+8*r.length:Nat):Int),p++mCs k r.length)
 | _,p,k,0,h,_,_=>by omega
 | [],p,k,fuel+1,h,h2,h3=>by
  simp only [iterP,l53_0,l53_0_b]
  rw [List.append_nil,ltn,oif_f]
  unfold j53_0
  simp [mCs]
 | x::r,p,k,fuel+1,h,h2,h3=>by
  simp only [List.length_cons] at h h2 h3
  have hlt:p.length < (p++x::r).length:=by simp
  have hg:(p++x::r)[p.length]? = some x:=by simp
  simp only [iterP,l53_0,l53_0_b,ofNat_toNat,nn,oif_t]
  rw [decide_eq_true (show ((p.length:Nat):Int) < (((p++x::r).length:Nat):Int) by omega),oif_t,blt_of hlt,oif_t,hg,ob_s]
  simp only [List.length_set,List.set_set,List.getElem?_set_self hlt,ob_s,blt_of hlt,oif_t]
  rw [set_mid,wr1 (by omega),wr1 (by omega),wr1 (by omega),wr1 (by omega),wr1 (by omega),wr1 (by omega),wr1 (by omega),wr1 (by omega),wr1 (by omega)]
  have:=mark_c (d:=d) r (p:=p++[mC k]) (k:=k+1+1+1+1+1+1+1+1) (fuel:=fuel) (by omega) (by simp;omega) (by omega)
  rw [List.length_append,show (p++[mC k])++r=p++mC k::r by simp] at this
  simp only [List.length_cons,List.length_nil,mCs]
  rw [show k+8*(r.length+1)=k+1+1+1+1+1+1+1+1+8*r.length by omega,show p++mC k::mCs (k+1+1+1+1+1+1+1+1) r.length=(p++[mC k])++mCs (k+1+1+1+1+1+1+1+1) r.length by simp]
  exact this
theorem mark_f {d:Nat}:∀ (r:List Fl5) {p:List Fl5} {k fuel:Nat},r.length < fuel→p.length+r.length≤2000000→k+5*r.length≤1000000000 →
  iterP (l54_0 d (j54_0 d)) fuel ((k:Int),((p.length:Nat):Int),p++r)=some (((k+5*r.length:Nat):Int),p++mFs k r.length)
 | _,p,k,0,h,_,_=>by omega
 | [],p,k,fuel+1,h,h2,h3=>by
  simp only [iterP,l54_0,l54_0_b]
  rw [List.append_nil,ltn,oif_f]
  unfold j54_0
  simp [mFs]
 | x::r,p,k,fuel+1,h,h2,h3=>by
  simp only [List.length_cons] at h h2 h3
  have hlt:p.length < (p++x::r).length:=by simp
  have hg:(p++x::r)[p.length]? = some x:=by simp
  simp only [iterP,l54_0,l54_0_b,ofNat_toNat,nn,oif_t]
  rw [decide_eq_true (show ((p.length:Nat):Int) < (((p++x::r).length:Nat):Int) by omega),oif_t,blt_of hlt,oif_t,hg,ob_s]
  simp only [List.length_set,List.set_set,List.getElem?_set_self hlt,ob_s,blt_of hlt,oif_t]
  rw [set_mid,wr1 (by omega),wr1 (by omega),wr1 (by omega),wr1 (by omega),wr1 (by omega),wr1 (by omega)]
  have:=mark_f (d:=d) r (p:=p++[mF k]) (k:=k+1+1+1+1+1) (fuel:=fuel) (by omega) (by simp;omega) (by omega)
  rw [List.length_append,show (p++[mF k])++r=p++mF k::r by simp] at this
  simp only [List.length_cons,List.length_nil,mFs]
  rw [show k+5*(r.length+1)=k+1+1+1+1+1+5*r.length by omega,show p++mF k::mFs (k+1+1+1+1+1) r.length=(p++[mF k])++mFs (k+1+1+1+1+1) r.length by simp]
  exact this
def mIs:Nat→Nat→List Int
 | _,0=>[]
 | k,n+1=>(k:Int)::mIs (k+1) n
theorem mark_i {d:Nat}:∀ (r:List Int) {p:List Int} {k fuel:Nat},r.length < fuel→p.length+r.length≤2000000→k+r.length≤1000000000 →
  iterP (l32_0 d (j32_0 d)) fuel ((k:Int),((p.length:Nat):Int),p++r)=some (((k+r.length:Nat):Int),p++mIs k r.length)
 | _,p,k,0,h,_,_=>by omega
 | [],p,k,fuel+1,h,h2,h3=>by
  simp only [iterP,l32_0,l32_0_b]
  rw [List.append_nil,ltn,oif_f]
  unfold j32_0
  simp [mIs]
 | x::r,p,k,fuel+1,h,h2,h3=>by
  simp only [List.length_cons] at h h2 h3
  have hlt:p.length < (p++x::r).length:=by simp
  have hg:(p++x::r)[p.length]? = some x:=by simp
  simp only [iterP,l32_0,l32_0_b,ofNat_toNat,nn,oif_t]
  rw [decide_eq_true (show ((p.length:Nat):Int) < (((p++x::r).length:Nat):Int) by omega),oif_t,blt_of hlt,oif_t,hg,ob_s]
  rw [set_mid,wr1 (by omega),wr1 (by omega)]
  have:=mark_i (d:=d) r (p:=p++[(k:Int)]) (k:=k+1) (fuel:=fuel) (by omega) (by simp;omega) (by omega)
  rw [List.length_append,show (p++[(k:Int)])++r=p++(k:Int)::r by simp] at this
  simp only [List.length_cons,List.length_nil,mIs]
  rw [show k+(r.length+1)=k+1+r.length by omega,show p++(k:Int)::mIs (k+1) r.length=(p++[(k:Int)])++mIs (k+1) r.length by simp]
  exact this
theorem held_i {d:Nat} {l:List Int}:∀ (n:Nat) {p:List Int} {k fuel:Nat},l=p++mIs k n→n < fuel→p.length+n≤2000000→k+n≤1000000000 →
  iterP (l33_0 d l (j33_0 d)) fuel ((k:Int),0,((p.length:Nat):Int))=some ((k+n:Nat):Int)
 | n,p,k,0,_,h,_,_=>by omega
 | 0,p,k,fuel+1,e,h,h2,h3=>by
  simp only [mIs,List.append_nil] at e
  subst e
  simp only [iterP,l33_0,l33_0_b]
  rw [ltn,oif_f]
  unfold j33_0
  simp
 | n+1,p,k,fuel+1,e,h,h2,h3=>by
  have hg:l[p.length]? = some (k:Int):=by rw [e];simp [mIs]
  have hlt:=(List.getElem?_eq_some_iff.1 hg).1
  simp only [iterP,l33_0,l33_0_b,ofNat_toNat,nn,oif_t]
  rw [decide_eq_true (show ((p.length:Nat):Int) < ((l.length:Nat):Int) by omega),oif_t,hg]
  simp only [ob_s]
  rw [wr1 (by omega),wr1 (by omega)]
  simp only [bne_self_eq_false,oif_f]
  have:=held_i (d:=d) (l:=l) n (p:=p++[(k:Int)]) (k:=k+1) (fuel:=fuel) (by rw [e];simp [mIs]) (by omega) (by simp;omega) (by omega)
  rw [List.length_append] at this
  simp only [List.length_cons,List.length_nil] at this
  rw [show k+(n+1)=k+1+n by omega]
  exact this
theorem q_markIntS {d k:Nat} {l:List Int} (hl:l.length≤1048576) (hk:k≤100000000):g32 (d+1) l (k:Int)=some (((k+l.length:Nat):Int),mIs k l.length):=by
 rw [e32]
 exact mark_i l (p:=[]) (by rw [fuelN_eq];omega) (by simp;omega) (by omega)
theorem q_markClassS {d k:Nat} {l:List Cl8} (hl:l.length≤1048576) (hk:k≤100000000):g53 (d+1) l (k:Int)=some (((k+8*l.length:Nat):Int),mCs k l.length):=by
 rw [e53]
 exact mark_c l (p:=[]) (by rw [fuelN_eq];omega) (by simp;omega) (by omega)
theorem q_markFilterS {d k:Nat} {l:List Fl5} (hl:l.length≤1048576) (hk:k≤100000000):g54 (d+1) l (k:Int)=some (((k+5*l.length:Nat):Int),mFs k l.length):=by
 rw [e54]
 exact mark_f l (p:=[]) (by rw [fuelN_eq];omega) (by simp;omega) (by omega)
theorem q_heldIntS {d k n:Nat} (hl:n≤1048576) (hk:k≤100000000):g33 (d+1) (mIs k n) (k:Int)=some (((k+n:Nat):Int)):=by
 rw [e33]
 exact held_i n (p:=[]) rfl (by rw [fuelN_eq];omega) (by simp;omega) (by omega)
def mkT (k:Nat) (t:Tk):Tk:=(mIs k t.1.length,mIs (k+t.1.length) t.2.length)
theorem q_eqTokens {d:Nat} {t:Tk} (h1:t.1.length≤2000000) (h2:t.2.length≤2000000):g30 (d+2) t t=some true:=by
 rw [e30,q_eqIntS h1,ob_s,Bool.not_true,oif_f,q_eqIntS h2,ob_s,Bool.not_true,oif_f]
theorem q_toTokens {d:Nat} {t:Tk} (h1:t.1.length≤1048576) (h2:t.2.length≤1048576):g27 (d+2) t=some t:=by
 rw [e27,q_toIntS h1,ob_s,q_toIntS h2,ob_s]
theorem p_szTokens {d:Nat} {t:Tk} {n:Int} (h0:0≤n) (h1:n≤1048576) (z1:t.1.length≤9223372036854775807) (z2:t.2.length≤9223372036854775807):Ok (g25 (d+2) t n) fun r=>r < 0∨(0≤r∧r≤n∧t.1.length≤1048576∧t.2.length≤1048576):=by
 have no:Ok (some (-1:Int)) fun r=>r < 0∨(0≤r∧r≤n∧t.1.length≤1048576∧t.2.length≤1048576):=Ok.some (Or.inl (by omega))
 rw [e25]
 refine Ok.bind (p_szIntS (by omega) (by omega) z1) fun r3 g3=>?_
 refine Ok.oif (fun _=>no) (fun hs3=>?_)
 simp only [decide_eq_false_iff_not] at hs3
 have g3:=g3.resolve_left hs3
 refine Ok.bind (p_szIntS (by omega) (by omega) z2) fun r4 g4=>?_
 refine Ok.oif (fun _=>no) (fun hs4=>?_)
 simp only [decide_eq_false_iff_not] at hs4
 have g4:=g4.resolve_left hs4
 exact Ok.some (Or.inr ⟨by omega,by omega,by omega,by omega⟩)
theorem getD_get {l:List Int} {i:Nat} {z:Int} (h:i < l.length):l[i]? = some (l.getD i z):=by
 rw [List.getD_eq_getElem?_getD,List.getElem?_eq_getElem h];rfl
def tkO (t:Tk) (c:Cl8) (i:Nat):Bool:=decide (0≤t.1.getD i 0∧t.1.getD i 0≤c.2.2.2.2.1)&&decide (0≤t.2.getD i 0∧t.2.getD i 0≤c.2.2.2.2.2.1)
def tkB (x:Ld) (t:Tk):Bool:=decide (t.1.length=x.2.1.length∧t.2.length=x.2.1.length)&&allI (tkO t) x.2.1 0
theorem tkB_len {x:Ld} {t:Tk} (h:tkB x t=true):t.1.length=x.2.1.length∧t.2.length=x.2.1.length:=by
 unfold tkB at h
 simp only [Bool.and_eq_true,decide_eq_true_eq] at h
 exact h.1
theorem q_areTokens17 {d:Nat} {x:Ld} {t:Tk} (hl:x.2.1.length≤1000):g68 (d+1) x t=some (tkB x t):=by
 rw [e68]
 unfold j68_2 tkB
 by_cases h1:t.1.length=x.2.1.length
 case neg=>rw [show ((((t.1.length:Nat):Int)) != ((x.2.1.length:Nat):Int))=true by simp;omega,oif_t,oif_t,decide_eq_false (fun h=>h1 h.1)];rfl
 by_cases h2:t.2.length=x.2.1.length
 case neg=>rw [show ((((t.1.length:Nat):Int)) != ((x.2.1.length:Nat):Int))=false by simp;omega,oif_f,show ((((t.2.length:Nat):Int)) != ((x.2.1.length:Nat):Int))=true by simp;omega,oif_t,decide_eq_false (fun h=>h2 h.2)];rfl
 rw [show ((((t.1.length:Nat):Int)) != ((x.2.1.length:Nat):Int))=false by simp;omega,oif_f,show ((((t.2.length:Nat):Int)) != ((x.2.1.length:Nat):Int))=false by simp;omega,oif_f,decide_eq_true ⟨h1,h2⟩,Bool.true_and]
 refine (range_eq (fun (t:Bool) (i:Int)=>(t,i)) x.2.1 (fun c i b k=>oif (tkO t c i) (k b) (some false)) (fun _=>some true) ?_ ?_ (by rw [fuelN_eq];omega) false).trans ?_
 ·intro ag b i c hx
  have hi:=(List.getElem?_eq_some_iff.1 hx).1
  simp only [l68_0,l68_0_b,ltl hx,nn,ofNat_toNat,hx,ob_s,oif_t]
  rw [getD_get (l:=t.1) (z:=0) (by omega),getD_get (l:=t.2) (z:=0) (by omega)]
  simp only [ob_s]
  unfold j68_1
  by_cases a1:t.1.getD i 0 < 0
  ·rw [decide_eq_true a1,oif_t,oif_t,show tkO t c i=false by unfold tkO;rw [decide_eq_false (by omega),Bool.false_and],oif_f]
  by_cases a2:t.1.getD i 0 > c.2.2.2.2.1
  ·rw [decide_eq_false a1,oif_f,decide_eq_true a2,oif_t,oif_t,show tkO t c i=false by unfold tkO;rw [decide_eq_false (by omega),Bool.false_and],oif_f]
  by_cases a3:t.2.getD i 0 < 0
  ·rw [decide_eq_false a1,oif_f,decide_eq_false a2,oif_f,decide_eq_true a3,oif_t,oif_t,show tkO t c i=false by unfold tkO;rw [Bool.and_comm,decide_eq_false (by omega),Bool.false_and],oif_f]
  by_cases a4:t.2.getD i 0 > c.2.2.2.2.2.1
  ·rw [decide_eq_false a1,oif_f,decide_eq_false a2,oif_f,decide_eq_false a3,oif_f,decide_eq_true a4,oif_t,show tkO t c i=false by unfold tkO;rw [Bool.and_comm,decide_eq_false (by omega),Bool.false_and],oif_f]
  ·rw [decide_eq_false a1,oif_f,decide_eq_false a2,oif_f,decide_eq_false a3,oif_f,decide_eq_false a4,oif_f,show tkO t c i=true by unfold tkO;rw [decide_eq_true (by omega),decide_eq_true (by omega)];rfl,oif_t,wr1 (by omega)]
 ·intro ag t;simp only [l68_0,l68_0_b,ltn,oif_f];rfl
 ·rw [rangeR_allI];cases allI (tkO t) x.2.1 0<;>rfl
theorem q_htTokens {d:Nat} {x:Ld} {t:Tk} (hl:x.2.1.length≤1000):g106 (d+2) x t=some (tkB x t):=by
 rw [e106]
 unfold j106_1 tkB
 by_cases h1:t.1.length=x.2.1.length
 case neg=>rw [show ((((t.1.length:Nat):Int)) != ((x.2.1.length:Nat):Int))=true by simp;omega,oif_t,oif_t,decide_eq_false (fun h=>h1 h.1)];rfl
 by_cases h2:t.2.length=x.2.1.length
 case neg=>rw [show ((((t.1.length:Nat):Int)) != ((x.2.1.length:Nat):Int))=false by simp;omega,oif_f,show ((((t.2.length:Nat):Int)) != ((x.2.1.length:Nat):Int))=true by simp;omega,oif_t,decide_eq_false (fun h=>h2 h.2)];rfl
 rw [show ((((t.1.length:Nat):Int)) != ((x.2.1.length:Nat):Int))=false by simp;omega,oif_f,show ((((t.2.length:Nat):Int)) != ((x.2.1.length:Nat):Int))=false by simp;omega,oif_f,decide_eq_true ⟨h1,h2⟩,Bool.true_and]
 refine (range_eq (fun (t:Bool) (i:Int)=>(t,i)) x.2.1 (fun c i b k=>oif (tkO t c i) (k b) (some false)) (fun _=>some true) ?_ ?_ (by rw [fuelN_eq];omega) false).trans ?_
 ·intro ag b i c hx
  have hi:=(List.getElem?_eq_some_iff.1 hx).1
  simp only [l106_0,l106_0_b,ltl hx,nn,ofNat_toNat,hx,ob_s,oif_t]
  rw [getD_get (l:=t.1) (z:=0) (by omega),getD_get (l:=t.2) (z:=0) (by omega),ob_s,ob_s,q_l1In,ob_s,q_l1In,ob_s,wr1 (by omega)]
  unfold tkO
  cases decide (0≤t.1.getD i 0∧t.1.getD i 0≤c.2.2.2.2.1) with
  | false=>rfl
  | true=>cases decide (0≤t.2.getD i 0∧t.2.getD i 0≤c.2.2.2.2.2.1)<;>rfl
 ·intro ag t;simp only [l106_0,l106_0_b,ltn,oif_f];rfl
 ·rw [rangeR_allI];cases allI (tkO t) x.2.1 0<;>rfl
theorem lg_len {x:Ld} (h:lgB x=true):x.2.1.length≤24:=by
 unfold lgB at h
 simp only [Bool.and_eq_true,decide_eq_true_eq] at h
 exact h.1.1
theorem q_htGood {d:Nat} {x:Ld} {t:Tk} (h:ldSz x):g66 (d+12) x t=some (lgB x&&tkB x t):=by
 rw [e66,q_loGood h,ob_s]
 cases hg:lgB x with
 | false=>rfl
 | true =>
  have:=lg_len hg
  rw [oif_t,show d+11=d+9+2 by omega,q_htTokens (by omega),ob_s,Bool.true_and]
theorem par_before {l:List Cl8} (T:Tr l) {i:Int} (hi:vI l i) (hp:0≤parI l i):pW l (parI l i) < pW l i:=by
 have hv:=par_v (l:=l) (i:=i) hp
 obtain ⟨A,B,e⟩:=wlk_part T _ (parI l i) (Nat.le_refl _) hv
 rw [sub_eq T hv] at e
 have hm:i∈(kdI l (parI l i)).flatMap (subI l):=List.mem_flatMap.2 ⟨i,(kd_mem T hv).2 ⟨hi,rfl⟩,by rw [sub_eq T hi];simp⟩
 obtain ⟨m,hm⟩:=List.getElem?_of_mem hm
 have hlt:=(List.getElem?_eq_some_iff.1 hm).1
 have h1:(wlk l)[A.length]? = some (parI l i):=by rw [e];simp
 have h2:(wlk l)[A.length+1+m]? = some i:=by
  rw [e,List.append_assoc,List.getElem?_append_right (by omega),show A.length+1+m - A.length=m+1 by omega,List.cons_append,List.getElem?_cons_succ,List.getElem?_append_left hlt,hm]
 unfold pW
 rw [pos_of (wlk_nodup T) h1,pos_of (wlk_nodup T) h2]
 omega
structure Lk (x:Ld):Prop where
 n24:x.2.1.length≤24
 pl:x.2.2.1.length=x.2.1.length
 fl:x.2.2.2.1.length=x.2.1.length
 pd:∀ (k:Nat) (p:Int),x.2.2.1[k]? = some p→p < (k:Int)
 bur:∀ c∈x.2.1,c.2.2.2.2.1≤1000000∧c.2.2.2.2.2.1≤1000000
theorem lk_of {x:Ld} (h:lgB x=true):Lk x:=by
 have h24:=lg_len h
 unfold lgB smB at h
 simp only [Bool.and_eq_true,decide_eq_true_eq] at h
 obtain ⟨_,hg,s1,s2,s3,_⟩:=h
 have G:=gd_of hg
 have T:=G.tr
 have e1:x.2.1.length=(wlk (unV x).2.1).length:=by rw [s1];show ((wlk (unV x).2.1).map _).length=_;rw [List.length_map]
 refine ⟨h24,?_,?_,?_,?_⟩
 ·rw [e1,s2];show ((wlk (unV x).2.1).map _).length=_;rw [List.length_map]
 ·rw [e1,s3];show ((wlk (unV x).2.1).map _).length=_;rw [List.length_map]
 ·intro k p hp
  rw [s2] at hp
  have hp':((wlk (unV x).2.1).map fun i=>pW (unV x).2.1 (parI (unV x).2.1 i))[k]? = some p:=hp
  rw [List.getElem?_map] at hp'
  obtain ⟨i,hi,rfl⟩:=Option.map_eq_some_iff.1 hp'
  have hv:=(wlk_mem T).1 (List.mem_of_getElem? hi)
  have hk:pW (unV x).2.1 i=(k:Int):=pos_of (wlk_nodup T) hi
  rcases Int.lt_or_le (parI (unV x).2.1 i) 0 with h0 | h0
  ·rw [pW_no T h0];omega
  ·have:=par_before T hv h0;omega
 ·intro c hc
  have hm:c∈(unV x).2.1:=insV_perm.mem_iff.2 hc
  have:=G.cl
  unfold clsB at this
  simp only [Bool.and_eq_true] at this
  have:=List.all_eq_true.1 this.2.2.2.2.2.2.2.1 c hm
  unfold burB at this
  simp only [decide_eq_true_eq] at this
  omega
def wyV (P:List Int):Nat→Int→List Int
 | 0,_=>[]
 | f+1,n=>if n < 0 then [] else n::wyV P f (P.getD n.toNat (-1))
theorem wy_mem {x:Ld} (L:Lk x):∀ (f:Nat) (n:Int),n < ((x.2.1.length:Nat):Int)→∀ w∈wyV x.2.2.1 f n,0≤w∧w < ((x.2.1.length:Nat):Int)
 | 0,n,_,w,h=>by simp [wyV] at h
 | f+1,n,hn,w,h=>by
  simp only [wyV] at h
  split at h
  ·simp at h
  ·rename_i h0
   rcases List.mem_cons.1 h with rfl | h
   ·omega
   ·have hg:=getD_get (l:=x.2.2.1) (i:=n.toNat) (z:=-1) (by have:=L.pl;omega)
    have:=L.pd _ _ hg
    exact wy_mem L f _ (by omega) w h
theorem wy_len {P:List Int}:∀ (f:Nat) (n:Int),(wyV P f n).length≤f
 | 0,n=>by simp [wyV]
 | f+1,n=>by
  simp only [wyV]
  split
  ·simp
  ·have:=wy_len (P:=P) f (P.getD n.toNat (-1));rw [List.length_cons];omega
def wyL (x:Ld) (n:Int):List Int:=wyV x.2.2.1 24 n
theorem q_wayAt {d:Nat} {x:Ld} (L:Lk x) {n:Int} (hn:n < ((x.2.1.length:Nat):Int)):g113 (d+1) x n=some (wyL x n):=by
 rw [e113]
 have key:∀ (f:Nat) (n:Int) (A:List Int) (fuel:Nat),n < ((x.2.1.length:Nat):Int)→n < (f:Int)→f < fuel→A.length+f≤1000→iterP (l113_0 d x (j113_0 d)) fuel (n,A)=some (A++wyV x.2.2.1 f n):=by
  intro f
  induction f with
  | zero =>
   intro n A fuel h1 h2 h3 h4
   obtain ⟨g,rfl⟩:∃ g,fuel=g+1:=⟨fuel - 1,by omega⟩
   simp only [iterP,l113_0,l113_0_b]
   rw [decide_eq_false (by omega),oif_f]
   simp only [wyV,List.append_nil]
   rfl
  | succ f ih =>
   intro n A fuel h1 h2 h3 h4
   obtain ⟨g,rfl⟩:∃ g,fuel=g+1:=⟨fuel - 1,by omega⟩
   simp only [iterP,l113_0,l113_0_b,wyV]
   by_cases h0:n < 0
   ·rw [decide_eq_false (by omega),oif_f,if_pos h0,List.append_nil];rfl
   ·have hg:=getD_get (l:=x.2.2.1) (i:=n.toNat) (z:=-1) (by have:=L.pl;omega)
    have:=L.pd _ _ hg
    rw [decide_eq_true (show n≥0 by omega),oif_t,room (by simp;omega),oif_t,oif_t,hg,ob_s,if_neg h0]
    rw [ih _ _ g (by omega) (by omega) (by omega) (by simp;omega),List.append_assoc]
    rfl
 have:=L.n24
 exact (key 24 n [] fuelN hn (by omega) (by rw [fuelN_eq];omega) (by simp)).trans (by rw [List.nil_append];rfl)
theorem q_loWay {d:Nat} {x:Ld} (L:Lk x) {n:Int} (hn:n < ((x.2.1.length:Nat):Int)):g111 (d+1) x n=some (wyL x n):=by
 rw [e111]
 have key:∀ (f:Nat) (n:Int) (A:List Int) (fuel:Nat),n < ((x.2.1.length:Nat):Int)→n < (f:Int)→f < fuel→A.length+f≤1000→iterP (l111_0 d x (j111_0 d)) fuel (n,A)=some (A++wyV x.2.2.1 f n):=by
  intro f
  induction f with
  | zero =>
   intro n A fuel h1 h2 h3 h4
   obtain ⟨g,rfl⟩:∃ g,fuel=g+1:=⟨fuel - 1,by omega⟩
   simp only [iterP,l111_0,l111_0_b]
   rw [decide_eq_false (by omega),oif_f]
   simp only [wyV,List.append_nil]
   rfl
  | succ f ih =>
   intro n A fuel h1 h2 h3 h4
   obtain ⟨g,rfl⟩:∃ g,fuel=g+1:=⟨fuel - 1,by omega⟩
   simp only [iterP,l111_0,l111_0_b,wyV]
   by_cases h0:n < 0
   ·rw [decide_eq_false (by omega),oif_f,if_pos h0,List.append_nil];rfl
   ·have hg:=getD_get (l:=x.2.2.1) (i:=n.toNat) (z:=-1) (by have:=L.pl;omega)
    have:=L.pd _ _ hg
    rw [decide_eq_true (show n≥0 by omega),oif_t,room (by simp;omega),oif_t,oif_t,hg,ob_s,if_neg h0]
    rw [ih _ _ g (by omega) (by omega) (by omega) (by simp;omega),List.append_assoc]
    rfl
 have:=L.n24
 exact (key 24 n [] fuelN hn (by omega) (by rw [fuelN_eq];omega) (by simp)).trans (by rw [List.nil_append];rfl)
def fdV (A:List Int) (s:Int):List Int→Int
 | []=>-1
 | w::r=>if A.getD w.toNat 0≥s then w else fdV A s r
def lenV (x:Ld) (t:Tk) (n s:Int):Int:=fdV t.1 s (wyL x n)
theorem q_lenderOf {d:Nat} {x:Ld} {t:Tk} (L:Lk x) (ht:t.1.length=x.2.1.length) {n s:Int} (hn:n < ((x.2.1.length:Nat):Int)):g114 (d+1) x t n s=some (lenV x t n s):=by
 rw [e114]
 have key:∀ (f:Nat) (n z:Int) (fuel:Nat),n < ((x.2.1.length:Nat):Int)→n < (f:Int)→f < fuel→iterP (l114_0 d x t s (j114_0 d)) fuel (z,n)=some (fdV t.1 s (wyV x.2.2.1 f n)):=by
  intro f
  induction f with
  | zero =>
   intro n z fuel h1 h2 h3
   obtain ⟨g,rfl⟩:∃ g,fuel=g+1:=⟨fuel - 1,by omega⟩
   simp only [iterP,l114_0,l114_0_b]
   rw [decide_eq_false (by omega),oif_f]
   rfl
  | succ f ih =>
   intro n z fuel h1 h2 h3
   obtain ⟨g,rfl⟩:∃ g,fuel=g+1:=⟨fuel - 1,by omega⟩
   simp only [iterP,l114_0,l114_0_b,wyV]
   by_cases h0:n < 0
   ·rw [decide_eq_false (by omega),oif_f,if_pos h0];rfl
   ·have hg:=getD_get (l:=x.2.2.1) (i:=n.toNat) (z:=-1) (by have:=L.pl;omega)
    have:=L.pd _ _ hg
    rw [decide_eq_true (show n≥0 by omega),oif_t,oif_t,getD_get (l:=t.1) (z:=0) (by omega),ob_s,if_neg h0]
    simp only [fdV]
    by_cases h5:t.1.getD n.toNat 0≥s
    ·rw [decide_eq_true h5,oif_t,if_pos h5]
    ·rw [decide_eq_false h5,oif_f,oif_t,hg,ob_s,if_neg h5]
     exact ih _ _ g (by omega) (by omega) (by omega)
 have:=L.n24
 exact key 24 n 0 fuelN hn (by omega) (by rw [fuelN_eq];omega)
theorem q_htLender {d:Nat} {x:Ld} {t:Tk} (L:Lk x) (ht:t.1.length=x.2.1.length) {n s:Int} (hn:n < ((x.2.1.length:Nat):Int)):g112 (d+2) x t n s=some (lenV x t n s):=by
 have hW:=wy_len (P:=x.2.2.1) 24 n
 rw [e112,q_loWay L hn,ob_s]
 refine (range_eq (fun (z:Int) (i:Int)=>(z,i)) (wyL x n) (fun w _ z k=>oif (decide (t.1.getD w.toNat 0≥s)) (some w) (k z)) (fun _=>some (-1)) ?_ ?_ (by rw [fuelN_eq];unfold wyL;omega) 0).trans ?_
 ·intro ag z i w hx
  have hi:=(List.getElem?_eq_some_iff.1 hx).1
  obtain ⟨w0,w1⟩:=wy_mem L 24 n hn w (List.mem_of_getElem? hx)
  unfold wyL at hi
  simp only [l112_0,l112_0_b,ltl hx,nn,ofNat_toNat,hx,ob_s,oif_t,bltl hx]
  rw [decide_eq_true w0,oif_t,getD_get (l:=t.1) (z:=0) (by omega),ob_s,wr1 (by omega)]
 ·intro ag t;simp only [l112_0,l112_0_b,ltn,oif_f];rfl
 ·have:∀ (W:List Int) (i:Nat) (z:Int),rangeR (fun w _ z k=>oif (decide (t.1.getD w.toNat 0≥s)) (some w) (k z)) (fun _=>some (-1)) W i z=some (fdV t.1 s W):=by
   intro W
   induction W with
   | nil=>intro i z;rfl
   | cons w r ih =>
    intro i z
    simp only [rangeR,fdV]
    by_cases h5:t.1.getD w.toNat 0≥s
    ·rw [decide_eq_true h5,oif_t,if_pos h5]
    ·rw [decide_eq_false h5,oif_f,if_neg h5];exact ih _ _
  exact this _ _ _
def mayV (x:Ld) (t:Tk) (n s:Int):Bool:=(wyL x n).all (fun w => !decide (t.2.getD w.toNat 0 < s))&&decide (lenV x t n s≥0)
theorem rangeR_ns {τ β:Type} {p:Int→Bool} {no:Option β} {fin:τ→Option β}:∀ (W:List Int) (i:Nat) (z:τ),rangeR (fun w _ z k=>oif (p w) no (k z)) fin W i z=oif (W.all fun w => !p w) (fin z) no
 | [],i,z=>rfl
 | w::r,i,z=>by
  simp only [rangeR,List.all_cons]
  cases p w with
  | true=>rfl
  | false=>rw [oif_f,rangeR_ns r];rfl
theorem q_maySend {d:Nat} {x:Ld} {t:Tk} (L:Lk x) (ht:t.1.length=x.2.1.length) (ht2:t.2.length=x.2.1.length) {n s:Int} (hn:n < ((x.2.1.length:Nat):Int)):g77 (d+2) x t n s=some (mayV x t n s):=by
 have hW:=wy_len (P:=x.2.2.1) 24 n
 rw [e77,q_wayAt L hn,ob_s]
 refine (range_eq (fun (z:Bool) (i:Int)=>(z,i)) (wyL x n) (fun w _ z k=>oif (decide (t.2.getD w.toNat 0 < s)) (some false) (k z)) (fun _=>some (decide (lenV x t n s≥0))) ?_ ?_ (by rw [fuelN_eq];unfold wyL;omega) false).trans ?_
 ·intro ag z i w hx
  have hi:=(List.getElem?_eq_some_iff.1 hx).1
  obtain ⟨w0,w1⟩:=wy_mem L 24 n hn w (List.mem_of_getElem? hx)
  unfold wyL at hi
  simp only [l77_0,l77_0_b,ltl hx,nn,ofNat_toNat,hx,ob_s,oif_t,bltl hx]
  rw [decide_eq_true w0,oif_t,getD_get (l:=t.2) (z:=0) (by omega),ob_s,wr1 (by omega)]
 ·intro ag t;simp only [l77_0,l77_0_b,ltn,oif_f]
  unfold j77_0
  rw [q_lenderOf L ht hn,ob_s]
 ·rw [rangeR_ns (p:=fun w=>decide (t.2.getD w.toNat 0 < s))]
  unfold mayV
  cases (wyL x n).all (fun w => !decide (t.2.getD w.toNat 0 < s))<;>rfl
theorem q_htMay {d:Nat} {x:Ld} {t:Tk} (L:Lk x) (ht:t.1.length=x.2.1.length) (ht2:t.2.length=x.2.1.length) {n s:Int} (hn:n < ((x.2.1.length:Nat):Int)):g76 (d+3) x t n s=some (mayV x t n s):=by
 have hW:=wy_len (P:=x.2.2.1) 24 n
 rw [e76,q_loWay L hn,ob_s]
 refine (range_eq (fun (z:Bool) (i:Int)=>(z,i)) (wyL x n) (fun w _ z k=>oif (decide (t.2.getD w.toNat 0 < s)) (some false) (k z)) (fun _=>some (decide (lenV x t n s≥0))) ?_ ?_ (by rw [fuelN_eq];unfold wyL;omega) false).trans ?_
 ·intro ag z i w hx
  have hi:=(List.getElem?_eq_some_iff.1 hx).1
  obtain ⟨w0,w1⟩:=wy_mem L 24 n hn w (List.mem_of_getElem? hx)
  unfold wyL at hi
  simp only [l76_0,l76_0_b,ltl hx,nn,ofNat_toNat,hx,ob_s,oif_t,bltl hx]
  rw [decide_eq_true w0,oif_t,getD_get (l:=t.2) (z:=0) (by omega),ob_s,wr1 (by omega)]
 ·intro ag t;simp only [l76_0,l76_0_b,ltn,oif_f]
  unfold j76_0
  rw [q_htLender L ht hn,ob_s]
 ·rw [rangeR_ns (p:=fun w=>decide (t.2.getD w.toNat 0 < s))]
  unfold mayV
  cases (wyL x n).all (fun w => !decide (t.2.getD w.toNat 0 < s))<;>rfl
def lvV (F:List Int):List Int:=selI (fun f _=>decide (f < 0)) (fun _ k=>((k:Nat):Int)) F 0
theorem lvV_len {F:List Int}:(lvV F).length≤F.length:=selI_len _ _
theorem q_leavesAt {d:Nat} {x:Ld} (hl:x.2.1.length≤1000) (hE:x.2.2.2.1.length=x.2.1.length):g61 (d+1) x=some (lvV x.2.2.2.1):=by
 rw [e61]
 refine (range_eq (fun (t:List Int) (i:Int)=>(t,i)) x.2.2.2.1 (fun f i t k=>oif (decide (f < 0)) (oif (Nat.ble ((t.length+[((i:Nat):Int)].length)*8) roomMax) (k (t++[((i:Nat):Int)])) none) (k t)) (fun t=>some t) ?_ ?_ (by rw [fuelN_eq];omega) []).trans ?_
 ·intro ag t i f hx
  have hi:=(List.getElem?_eq_some_iff.1 hx).1
  simp only [l61_0,l61_0_b,← hE,ltl hx,nn,ofNat_toNat,hx,ob_s,oif_t]
  rw [wr1 (by omega)]
 ·intro ag t;simp only [l61_0,l61_0_b,← hE,ltn,oif_f];rfl
 ·rw [rangeR_sel (c:=fun f _=>decide (f < 0)) (e:=fun (_:Int) (k:Nat)=>((k:Nat):Int)) (w:=8) x.2.2.2.1 0 [] (by simp;omega)]
  rfl
theorem q_loLeaf {d k:Nat} {x:Ld} {f:Int} (h:x.2.2.2.1[k]? = some f):g110 (d+1) x ((k:Nat):Int)=some (decide (f < 0)):=by
 rw [e110,nn,oif_t,ofNat_toNat,h,ob_s]
theorem q_loLeaves {d:Nat} {x:Ld} (hl:x.2.1.length≤1000) (hE:x.2.2.2.1.length=x.2.1.length):g74 (d+2) x=some (lvV x.2.2.2.1):=by
 rw [e74]
 refine (range_eq (fun (t:List Int) (i:Int)=>(t,i)) x.2.2.2.1 (fun f i t k=>oif (decide (f < 0)) (oif (Nat.ble ((t.length+[((i:Nat):Int)].length)*8) roomMax) (k (t++[((i:Nat):Int)])) none) (k t)) (fun t=>some t) ?_ ?_ (by rw [fuelN_eq];omega) []).trans ?_
 ·intro ag t i f hx
  have hi:=(List.getElem?_eq_some_iff.1 hx).1
  simp only [l74_0,l74_0_b,← hE,ltl hx,oif_t]
  rw [q_loLeaf hx,ob_s,wr1 (by omega)]
 ·intro ag t;simp only [l74_0,l74_0_b,← hE,ltn,oif_f];rfl
 ·rw [rangeR_sel (c:=fun f _=>decide (f < 0)) (e:=fun (_:Int) (k:Nat)=>((k:Nat):Int)) (w:=8) x.2.2.2.1 0 [] (by simp;omega)]
  rfl
theorem lv_mem {F:List Int} {w:Int} (h:w∈lvV F):0≤w∧w < ((F.length:Nat):Int):=by
 obtain ⟨j,x,h1,h2,h3⟩:=selI_mem _ _ h
 have:=(List.getElem?_eq_some_iff.1 h1).1
 omega
def sqB (l:List Int):Bool:=l.all fun n=>decide (0≤n∧n≤1500)
def slV (x:Ld) (t:Tk) (l:List Int):List Int:=selI (fun w i=>decide (l.getD i 0 > 0)&&mayV x t w (l.getD i 0)) (fun w _=>w) (lvV x.2.2.2.1) 0
def soV (x:Ld) (t:Tk) (l:List Int):List Int×Bool:=if (lgB x&&tkB x t&&(decide (l.length=(lvV x.2.2.2.1).length)&&sqB l))=true then (slV x t l,true) else ([],false)
theorem i_sel {d:Nat} {x:Ld} {t:Tk} {l:List Int} (L:Lk x) (h:tkB x t=true) (a:l.length=(lvV x.2.2.2.1).length) (hq:sqB l=true):iterP (l39_1 (d+2) x t l (lvV x.2.2.2.1) (j39_0 (d+2))) fuelN ([],0)=some (slV x t l,true):=by
 obtain ⟨t1,t2⟩:=tkB_len h
 have h24:=L.n24
 have hf:=L.fl
 have hv:=lvV_len (F:=x.2.2.2.1)
 refine (range_eq (fun (v:List Int) (i:Int)=>(v,i)) (lvV x.2.2.2.1) (fun w i v k=>oif (decide (l.getD i 0 > 0)&&mayV x t w (l.getD i 0)) (oif (Nat.ble ((v.length+[w].length)*8) roomMax) (k (v++[w])) none) (k v)) (fun v=>some (v,true)) ?_ ?_ (by rw [fuelN_eq];omega) []).trans ?_
 ·intro ag v i w hx
  have hi:=(List.getElem?_eq_some_iff.1 hx).1
  obtain ⟨w0,w1⟩:=lv_mem (List.mem_of_getElem? hx)
  simp only [l39_1,l39_1_b,ltl hx,nn,ofNat_toNat,hx,ob_s,oif_t,bltl hx]
  rw [getD_get (l:=l) (z:=0) (by omega),ob_s]
  unfold j39_1
  by_cases n0:l.getD i 0=0
  ·rw [show (l.getD i 0 != 0)=false by rw [n0];rfl,oif_f,oif_f,wr1 (by omega),n0];rfl
  ·have h0:=List.all_eq_true.1 hq _ (List.mem_of_getElem? (getD_get (l:=l) (z:=0) (i:=i) (by omega)))
   simp only [decide_eq_true_eq] at h0
   rw [show (l.getD i 0 != 0)=true from bne_iff_ne.2 n0,oif_t,ob_s,q_maySend L t1 t2 (by omega),ob_s,decide_eq_true (show l.getD i 0 > 0 by omega),Bool.true_and,wr1 (by omega)]
 ·intro ag t;simp only [l39_1,l39_1_b,ltn,oif_f];rfl
 ·rw [rangeR_sel (c:=fun w i=>decide (l.getD i 0 > 0)&&mayV x t w (l.getD i 0)) (e:=fun (w:Int) (_:Nat)=>w) (w:=8) (lvV x.2.2.2.1) 0 [] (by simp;omega)]
  rfl
theorem s_sel {d:Nat} {x:Ld} {t:Tk} {l:List Int} (L:Lk x) (h:tkB x t=true) (a:l.length=(lvV x.2.2.2.1).length):iterP (l37_0 (d+3) x t l (lvV x.2.2.2.1) (j37_0 (d+3))) fuelN ([],0)=some (slV x t l,true):=by
 obtain ⟨t1,t2⟩:=tkB_len h
 have h24:=L.n24
 have hf:=L.fl
 have hv:=lvV_len (F:=x.2.2.2.1)
 refine (range_eq (fun (v:List Int) (i:Int)=>(v,i)) (lvV x.2.2.2.1) (fun w i v k=>oif (decide (l.getD i 0 > 0)&&mayV x t w (l.getD i 0)) (oif (Nat.ble ((v.length+[w].length)*8) roomMax) (k (v++[w])) none) (k v)) (fun v=>some (v,true)) ?_ ?_ (by rw [fuelN_eq];omega) []).trans ?_
 ·intro ag v i w hx
  have hi:=(List.getElem?_eq_some_iff.1 hx).1
  obtain ⟨w0,w1⟩:=lv_mem (List.mem_of_getElem? hx)
  simp only [l37_0,l37_0_b,ltl hx,nn,ofNat_toNat,hx,ob_s,oif_t,bltl hx]
  rw [getD_get (l:=l) (z:=0) (by omega),ob_s]
  unfold j37_1
  by_cases n0:l.getD i 0 > 0
  ·rw [decide_eq_true n0,oif_t,ob_s,q_htMay L t1 t2 (by omega),ob_s,Bool.true_and,wr1 (by omega)]
  ·rw [decide_eq_false n0,oif_f,oif_f,wr1 (by omega),Bool.false_and,oif_f]
 ·intro ag t;simp only [l37_0,l37_0_b,ltn,oif_f];rfl
 ·rw [rangeR_sel (c:=fun w i=>decide (l.getD i 0 > 0)&&mayV x t w (l.getD i 0)) (e:=fun (w:Int) (_:Nat)=>w) (w:=8) (lvV x.2.2.2.1) 0 [] (by simp;omega)]
  rfl
theorem q_SendersOf {d:Nat} {x:Ld} {t:Tk} {l:List Int} (h:ldSz x) (hl:l.length≤1048576):g39 (d+28) x t l=some (soV x t l):=by
 rw [e39,q_IsLoaded h,ob_s]
 unfold soV j39_3
 cases hg:lgB x with
 | false=>rfl
 | true =>
  have L:=lk_of hg
  have h24:=L.n24
  have hf:=L.fl
  rw [Bool.not_true,oif_f,show d+27=d+26+1 by omega,q_areTokens17 (by omega),ob_s]
  cases hb:tkB x t with
  | false=>rfl
  | true =>
   have hv:=lvV_len (F:=x.2.2.2.1)
   rw [Bool.not_true,oif_f,q_leavesAt (by omega) hf,ob_s]
   by_cases a:l.length=(lvV x.2.2.2.1).length
   case neg=>rw [show ((((l.length:Nat):Int)) != (((lvV x.2.2.2.1).length:Nat):Int))=true by simp;omega,oif_t,decide_eq_false a];rfl
   rw [show ((((l.length:Nat):Int)) != (((lvV x.2.2.2.1).length:Nat):Int))=false by simp;omega,oif_f,decide_eq_true a]
   refine (range_eq (fun (z:List Int×Bool) (i:Int)=>(z.1,z.2,i)) l (fun n _ z k=>oif (decide (0≤n∧n≤1500)) (k z) (some ([],false))) (fun z=>j39_2 (d+26+1) x t l (lvV x.2.2.2.1) z.2 z.1) ?_ ?_ (by rw [fuelN_eq];omega) ([],false)).trans ?_
   ·intro ag z i n hx
    have hi:=(List.getElem?_eq_some_iff.1 hx).1
    simp only [l39_0,l39_0_b,ltl hx,nn,ofNat_toNat,hx,ob_s,oif_t]
    rw [q_isSize,ob_s,wr1 (by omega)]
    unfold szOk
    by_cases n0:n=0
    ·rw [show (n != 0)=false by rw [n0];rfl,oif_f,decide_eq_true (show 0≤n∧n≤1500 by omega),oif_t]
    ·rw [show (n != 0)=true from bne_iff_ne.2 n0,oif_t]
     by_cases n1:1≤n∧n≤1500
     ·rw [decide_eq_true n1,Bool.not_true,oif_f,decide_eq_true (show 0≤n∧n≤1500 by omega),oif_t]
     ·rw [decide_eq_false n1,Bool.not_false,oif_t,decide_eq_false (show ¬ (0≤n∧n≤1500) by omega),oif_f]
   ·intro ag t;simp only [l39_0,l39_0_b,ltn,oif_f]
   ·rw [rangeR_all (p:=fun n=>decide (0≤n∧n≤1500))]
    have e:(l.all fun n=>decide (0≤n∧n≤1500))=sqB l:=rfl
    rw [e]
    cases hq:sqB l with
    | false=>rfl
    | true =>
     rw [oif_t]
     unfold j39_2
     rw [show d+26+1=d+25+2 by omega,i_sel L hb a hq]
     rfl
theorem q_sSendersOf {d:Nat} {x:Ld} {t:Tk} {l:List Int} (h:ldSz x) (hl:l.length≤1048576):g37 (d+13) x t l=some (soV x t l):=by
 rw [e37,q_htGood h,ob_s]
 unfold soV j37_2
 cases hg:lgB x with
 | false=>rfl
 | true =>
  have L:=lk_of hg
  have h24:=L.n24
  have hf:=L.fl
  cases hb:tkB x t with
  | false=>rfl
  | true =>
   have hv:=lvV_len (F:=x.2.2.2.1)
   simp only [Bool.and_self,Bool.not_true,oif_f,Bool.true_and]
   rw [show d+12=d+10+2 by omega,q_loLeaves (by omega) hf,ob_s]
   by_cases a:l.length=(lvV x.2.2.2.1).length
   case neg=>rw [show ((((l.length:Nat):Int)) != (((lvV x.2.2.2.1).length:Nat):Int))=true by simp;omega,oif_t,oif_t,decide_eq_false a];rfl
   rw [show ((((l.length:Nat):Int)) != (((lvV x.2.2.2.1).length:Nat):Int))=false by simp;omega,oif_f,decide_eq_true a,q_l1All (by omega),ob_s,ob_s]
   have e:(l.all fun n=>decide (0≤n∧n≤1500))=sqB l:=rfl
   rw [e]
   cases hq:sqB l with
   | false=>rfl
   | true =>
    rw [Bool.not_true,oif_f,show d+10+2=d+9+3 by omega,s_sel L hb a]
    rfl
theorem soV_len {x:Ld} {t:Tk} {l:List Int}:(soV x t l).1.length≤24:=by
 unfold soV
 split
 ·rename_i h
  simp only [Bool.and_eq_true] at h
  have L:=lk_of h.1.1
  have h1:=lvV_len (F:=x.2.2.2.1)
  have h2:(slV x t l).length≤(lvV x.2.2.2.1).length:=selI_len _ _
  have:=L.n24
  have:=L.fl
  show (slV x t l).length≤24
  omega
 ·simp
abbrev tyC:Ty:=.pair (.int .i64) (.pair (.int .i64) (.pair (.int .i64) (.pair (.int .i64) (.pair (.int .i64) (.pair (.int .i64) (.pair (.int .i64) (.int .i64)))))))
abbrev tyF:Ty:=.pair (.int .i64) (.pair (.int .i64) (.pair (.int .i64) (.pair (.int .i64) (.int .i64))))
abbrev tyLd:Ty:=.pair .str (.pair (.sl tyC) (.pair (.sl (.int .i64)) (.pair (.sl (.int .i64)) (.pair (.sl (.int .i64)) (.pair (.sl (.int .i64)) (.pair (.sl tyF) (.pair (.sl (.int .i64)) (.int .i64))))))))
abbrev tyT:Ty:=.pair (.sl (.int .i64)) (.sl (.int .i64))
theorem ldW_of {x:Ld} (h:Wf tyLd x):ldW x:=by
 obtain ⟨h1,⟨h2,_⟩,⟨h3,_⟩,⟨h4,_⟩,⟨h5,_⟩,⟨h6,_⟩,⟨h7,_⟩,⟨h8,_⟩,_⟩:=h
 exact ⟨h1,h2,h3,h4,h5,h6,h7,h8⟩
def tkW (t:Tk):Prop:=t.1.length≤9223372036854775807∧t.2.length≤9223372036854775807
theorem tkW_of {t:Tk} (h:Wf tyT t):tkW t:=by
 obtain ⟨⟨h2,_⟩,⟨h3,_⟩⟩:=h
 exact ⟨h2,h3⟩
theorem law_main {d:Nat} {x:Ld} {t:Tk} {l:List Int} (hw:ldW x) (ht:tkW t):g7 (d+32) x t l=some true:=by
 rw [show d+32=(d+30)+2 by omega,e7]
 by_cases h0:((l.length:Nat):Int) > 1048576
 ·rw [decide_eq_true h0,oif_t]
 rw [decide_eq_false h0,oif_f]
 have h0:l.length≤1048576:=by omega
 have hI:g38 (d+29+2) l=some l:=by rw [show d+29+2=d+30+1 by omega];exact q_toIntS h0
 have hQ:g29 (d+29+2) l l=some true:=by rw [show d+29+2=d+30+1 by omega];exact q_eqIntS (by omega)
 obtain ⟨r,hr,hB⟩:=p_szLoaded (d:=d+29) (n:=1048576) (by omega) (by omega) hw
 rw [show d+30+1=d+29+2 by omega,hr,ob_s]
 by_cases h:r < 0
 ·rw [decide_eq_true h,oif_t]
 have hB:=hB.resolve_left h
 obtain ⟨r',hr',hB'⟩:=p_szTokens (d:=d+29) (n:=r) (by omega) (by omega) ht.1 ht.2
 rw [decide_eq_false h,oif_f,hr',ob_s]
 by_cases h':r' < 0
 ·rw [decide_eq_true h',oif_t]
 have hB':=hB'.resolve_left h'
 have hl:ldL x:=hB.2.2
 obtain ⟨z1,z2,z3,z4,z5,z6,z7,z8⟩:=id hl
 obtain ⟨_,_,t1,t2⟩:=id hB'
 have hV:=soV_len (x:=x) (t:=t) (l:=l)
 have hT:g11 (d+29+2) x=some x:=by rw [show d+29+2=d+28+3 by omega];exact q_toLoaded hl
 have hU:g27 (d+29+2) t=some t:=q_toTokens t1 t2
 have hA:g39 (d+29+2) x t l=some (soV x t l):=by rw [show d+29+2=d+3+28 by omega];exact q_SendersOf hl.sz h0
 have hS:g37 (d+29+2) x t l=some (soV x t l):=by rw [show d+29+2=d+18+13 by omega];exact q_sSendersOf hl.sz h0
 have hL:g14 (d+29+2) x x=some true:=by rw [show d+29+2=d+28+3 by omega];exact q_eqLoaded hl
 have hE:g30 (d+29+2) t t=some true:=q_eqTokens (by omega) (by omega)
 have hR:g29 (d+29+2) (soV x t l).1 (soV x t l).1=some true:=by rw [show d+29+2=d+30+1 by omega];exact q_eqIntS (by omega)
 have hM:g32 (d+29+2) (soV x t l).1 ((1:Nat):Int)=some (((1+(soV x t l).1.length:Nat):Int),mIs 1 (soV x t l).1.length):=by rw [show d+29+2=d+30+1 by omega];exact q_markIntS (by omega) (by omega)
 have hH:g33 (d+29+2) (mIs 1 (soV x t l).1.length) ((1:Nat):Int)=some ((1+(soV x t l).1.length:Nat):Int):=by rw [show d+29+2=d+30+1 by omega];exact q_heldIntS (by omega) (by omega)
 rw [decide_eq_false h',oif_f,hT,ob_s,hU,ob_s,hI,ob_s,hS,ob_s,ob_s,ob_s,ob_s,hA,ob_s,hR,ob_s,Bool.not_true,oif_f,beq_self_eq_true,Bool.not_true]
 unfold j7_2
 rw [oif_f,show d+30+1=d+29+2 by omega,hT,ob_s,hL,ob_s,Bool.not_true,oif_f,hU,ob_s,hE,ob_s,Bool.not_true,oif_f,hI,ob_s,hQ,ob_s,Bool.not_true,oif_f,show d+30=d+29+1 by omega,show (1:Int)=((1:Nat):Int) from rfl,q_markClassS z2 (by omega),ob_s]
 simp only []
 rw [q_markIntS z3 (by omega),ob_s]
 simp only []
 rw [q_markIntS z4 (by omega),ob_s]
 simp only []
 rw [q_markIntS z5 (by omega),ob_s]
 simp only []
 rw [q_markIntS z6 (by omega),ob_s]
 simp only []
 rw [q_markFilterS z7 (by omega),ob_s]
 simp only []
 rw [q_markIntS z8 (by omega),ob_s]
 simp only []
 rw [q_markIntS t1 (by omega),ob_s]
 simp only []
 rw [q_markIntS t2 (by omega),ob_s]
 simp only []
 rw [q_markIntS h0 (by omega),ob_s]
 simp only []
 rw [decide_eq_false (by omega),oif_f,show d+29+1+1=d+29+2 by omega,hR,ob_s,Bool.not_true,oif_f,beq_self_eq_true,Bool.not_true]
 unfold j7_1
 rw [oif_f,show d+29+1+1=d+29+2 by omega,show (1:Int)=((1:Nat):Int) from rfl,hM,ob_s]
 simp only []
 rw [hH,ob_s,decide_eq_false (by omega),oif_f,bne_self_eq_false,oif_f,hT,ob_s,hU,ob_s,hI,ob_s,hA,ob_s,hR,ob_s,Bool.not_true,oif_f,beq_self_eq_true,Bool.not_true]
 unfold j7_0
 rw [oif_f,show d+29+1+1=d+29+2 by omega,show (1:Int)=((1:Nat):Int) from rfl]
 simp only []
 rw [hH,ob_s,decide_eq_false (by omega),oif_f,bne_self_eq_false,oif_f]
def tysLaw:List Ty:=[tyLd,tyT,.sl (.int .i64)]
theorem lawAny:LawAny Tryz.prog pvAnn (32) 7 tysLaw :=
 ⟨rfl,rfl,rfl,fun a h=>by
  obtain ⟨x,t,l⟩:=a
  exact ⟨true,law_main (d:=0) (ldW_of (h ⟨_,x⟩ (List.Mem.head _))) (tkW_of (h ⟨_,t⟩ (List.Mem.tail _ (List.Mem.head _)))),rfl⟩⟩
end Go.Proofs.YtgilhiacfogiaaaGreatDoor
