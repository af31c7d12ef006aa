/-
  Configurations by value. And what stood behind it in 4 texts.
  Conditions: said at the theorems.
-/
import Derived.Test.YtcoimfbmgjhcjabGreatDoorK22
import Derived.Test.YtcoimfbmgjhcjabGreatDoorVStr
set_option linter.all false
namespace Go.Proofs.YtcoimfbmgjhcjabGreatDoor
open Go.Ev Go.Pv
theorem Qsf {c:Cf} (G:Gd c):((bT c).2.1.map (·.1)).Nodup:=by
 have T:=G.tr
 show (((aG c.2.1).map (aU c.2.1)).map (·.1)).Nodup
 rw [List.map_map,List.nodup_iff_pairwise_ne,List.pairwise_map]
 exact (List.nodup_iff_pairwise_ne.1 (rT T)).imp_of_mem fun ha hb aV e=>aV (T.inj _ _ ((jT T).1 ha) ((jT T).1 hb) e)
theorem ZK {l:List aA} (h:(l.map (·.1)).Nodup):l.Nodup:=by
 rw [List.nodup_iff_pairwise_ne,List.pairwise_map] at h
 exact List.nodup_iff_pairwise_ne.2 (h.imp fun h e=>h (by rw [e]))
theorem OS {c:Cf} (h:fA c=true):rU c.2.1=true:=by
 have hc:=(rV h).cl
 unfold k_ at hc
 simp only [Z8] at hc
 exact hc.2.1
theorem Sf {c:Cf} (h:fA c=true):(bT c).2.1.Perm c.2.1:=by
 have G:=rV h
 refine (List.perm_ext_iff_of_nodup (ZK (Qsf G)) (ZK (OT (OS h)))).2 fun a=>?_
 show a∈(aG c.2.1).map (aU c.2.1)↔_
 rw [List.mem_map]
 constructor
 .rintro ⟨i,hi,rfl⟩
  exact Zc (fF ((jT G.tr).1 hi))
 .intro ha
  obtain ⟨k,hk⟩:=List.getElem?_of_mem ha
  exact ⟨(k:Int),(jT G.tr).2 (DN hk),jl hk⟩
theorem Sg {c:Cf} (h:fA c=true):eR (bT c)=c:=by
 have G:=rV h
 have h1:DO (bT c).2.1=c.2.1:=by
  refine (List.Perm.eq_of_pairwise (le:=fun a b=>cu a<=cu b) (fun a b ha hb h1 h2=>?_) ?_ ZL ((Sf h).symm.trans Bb.symm)).symm
  .unfold cu at h1 h2
   exact ZM (OT (OS h)) ha ((Sf h).mem_iff.1 (Bb.mem_iff.1 hb)) (by omega)
  .rw [List.pairwise_iff_getElem]
   intro i j hi hj mY
   have:=K4 (OS h) j i _ _ mY (Z6 hi) (Z6 hj)
   unfold cu;omega
 have h2:B3 (bT c)=c.2.2.2:=by
  show (if 0<=vT c/\vT c < (((bT c).2.1.length:Nat):Int) then (aU (bT c).2.1 (vT c)).1 else 0)=_
  unfold vT
  by_cases h0:c.2.2.2=0
  .rw [if_pos h0,if_neg (by omega),h0]
  .rw [if_neg h0]
   obtain ⟨t1,_⟩:=G.K5 h0
   obtain ⟨k,k1,k2⟩:=B4 G.tr t1
   have k3:(bT c).2.1[k]? = some (aU c.2.1 (bK c.2.1 c.2.2.2)):=by
    show ((aG c.2.1).map (aU c.2.1))[k]? = _
    rw [List.getElem?_map,k1];rfl
   have k4:=(Z0 k3).1
   rw [k2,if_pos ⟨by omega,by omega⟩,jl k3]
   obtain ⟨_,x,e1,e2,e3⟩:=tI t1.1
   rw [e1,jl e2,e3]
 show (c.1,DO (bT c).2.1,c.2.2.1,B3 (bT c))=c
 rw [h1,h2]
theorem OU {c:Cf} (h:fA c=true):eW (bT c)=true:=by
 have G:=rV h
 unfold eW DP
 rw [Sg h,h]
 have h1:=(Sf h).length_eq
 have h2:=G.tr.fL
 have h3:=G.f16
 have h4:(bT c).2.2.2.2.2.2.1.length<=16:=h3
 simp only [decide_true,beq_self_eq_true,Bool.and_true,Zg,Zj]
 exact ⟨by omega,h4⟩
theorem Sh {x:Ld} (h:eW x=true) {i j:Int} (hi:vI x.2.1 i) (hj:vI x.2.1 j) (e:(aU x.2.1 i).1=(aU x.2.1 j).1):i=j:=by
 have hd:=Si (OV h) Bb
 obtain ⟨i1,i2⟩:=Z0 (fF hi)
 obtain ⟨j1,j2⟩:=Z0 (fF hj)
 have:=(List.getElem_inj (h₀:=show i.toNat < (x.2.1.map (·.1)).length by simpa using i1) (h₁:=show j.toNat < (x.2.1.map (·.1)).length by simpa using j1) hd).1 (by simp [i2,j2,e])
 have h0:=hi.1
 have h1:=hj.1
 omega
theorem Sj {x:Ld} (h:eW x=true) {i:Int} (hi:vI x.2.1 i):1<=(aU x.2.1 i).1:=by
 have hm:aU x.2.1 i∈(eR x).2.1:=Bb.mem_iff.2 (Zc (fF hi))
 obtain ⟨k,hk⟩:=List.getElem?_of_mem hm
 have:=(rV (OV h)).tr.pos _ (DN hk)
 rw [jl hk] at this;exact this
theorem OW {α:Type} {p:α->Bool}:∀ (l:List α) (i:Nat),(∀ x∈l,p x=false)->fB p l i=-1
 | [],i,_=>rfl
 | x::r,i,h=>by
  unfold fB
  rw [if_neg (by rw [h x (by simp)];simp)]
  exact OW r (i+1) fun y hy=>h y (by simp [hy])
def I_ (n t:Int):Int:=if 0<=n then n else t
theorem ZN {p:Int->Bool}:∀ (l:List Int) (i:Nat) (t:Int),l.Pairwise (fun a b=>¬ (p a=true/\p b=true))->cH (fun w k (t:Int)=>if p w=true then ((k:Nat):Int) else t) l i t=I_ (fB p l i) t
 | [],i,t,_=>by simp [cH,fB,I_]
 | x::r,i,t,h=>by
  obtain ⟨h1,h2⟩:=List.pairwise_cons.1 h
  simp only [cH]
  rw [ZN r (i+1) _ h2]
  by_cases hx:p x=true
  .have hn:fB p r (i+1)=-1:=OW r _ fun y hy=>by
    have:=h1 y hy
    simpa [hx] using this
   have he:fB p (x::r) i=(i:Int):=if_pos hx
   rw [hn,if_pos hx,he]
   unfold I_
   rw [if_neg (by omega),if_pos (by omega)]
  .have he:fB p (x::r) i=fB p r (i+1):=if_neg hx
   rw [if_neg hx,he]
theorem Sk {α τ β:Type} {p:α->Bool} {J:Int->Option β}:∀ (l:List α) (i:Nat) (t:τ),er (fun x i t k=>aa (p x) (J ((i:Nat):Int)) (k t)) (fun _=>J (-1)) l i t=J (fB p l i)
 | [],i,t=>rfl
 | x::r,i,t=>by
  simp only [er,fB]
  by_cases h:p x=true
  .rw [if_pos h,h,Q4]
  .rw [if_neg h,show p x=false by simpa using h,Q5];exact Sk r (i+1) t
theorem OX {α τ σ β:Type} (mk:τ->Int->σ) {F:(σ->Option β)->σ->Option β} {fin:τ->Option β} {f:τ->α->τ} (I:τ->Nat->Prop) (l:List α) (hl:l.length < 4000000)
  (hs:∀ ag t (i:Nat) x n,l[i]? = some x->I t (n+1)->F ag (mk t ((i:Nat):Int))=ag (mk (f t x) ((i+1:Nat):Int)))
  (hi:∀ x∈l,∀ t n,I t (n+1)->I (f t x) n) (he:∀ ag t,F ag (mk t ((l.length:Nat):Int))=fin t) (m:Nat) (t:τ) (h:I t (l.length+m)):Q9 F Qd (mk t 0)=fin (l.foldl f t):=by
 have key:∀ (r p:List α) (fuel:Nat) (t:τ),l=p++r->r.length < fuel->I t (r.length+m)->Q9 F fuel (mk t ((p.length:Nat):Int))=fin (r.foldl f t):=by
  intro r
  induction r with
  | nil =>
   intro p fuel t e h _
   obtain ⟨n,rfl⟩:∃ n,fuel=n+1:=⟨fuel - 1,by omega⟩
   rw [List.append_nil] at e
   subst e
   exact he _ _
  | cons x r ih =>
   intro p fuel t e h hI
   obtain ⟨n,rfl⟩:∃ n,fuel=n+1:=⟨fuel - 1,by omega⟩
   simp only [Z9] at h
   rw [show (x::r).length+m=r.length+m+1 by simp;omega] at hI
   have:=ih (p++[x]) n (f t x) (by rw [e];simp) (by omega) (hi x (by rw [e];simp) t _ hI)
   rw [Zf] at this
   simp only [Q9,List.foldl_cons]
   rw [hs _ t p.length x _ (by rw [e];simp) hI]
   exact this
 exact key l [] Qd t rfl (by rw [Q6];omega) h
theorem ZO {α τ:Type} {f:τ->α->τ} (I:τ->Nat->Prop):∀ (l:List α) (t:τ) (m:Nat),I t (l.length+m)->(∀ x∈l,∀ t n,I t (n+1)->I (f t x) n)->I (l.foldl f t) m
 | [],t,m,h,_=>by simpa using h
 | x::r,t,m,h,hi=>by
  rw [show (x::r).length+m=r.length+m+1 by simp;omega] at h
  exact ZO I r (f t x) m (hi x (by simp) t _ h) (fun y hy=>hi y (by simp [hy]))
theorem K6 {α:Type} {l:List α} {i:Nat} {v:α} (h:l[i]? = some v):l.set i v=l:=by
 obtain ⟨h1,h2⟩:=Z0 h
 rw [<- h2,List.set_getElem_self]
theorem ZP {β:Type} {F:((Int×List Int×List Int)->Option β)->(Int×List Int×List Int)->Option β} {KX:List Int->List Int->Option β} {C:List aA} {bu cb f g:aA->Int} (hC:C.length<=1000)
  (hF:∀ ag (i:Nat) c l m,C[i]? = some c->l[i]? = some (bu c)->m[i]? = some (cb c)->F ag ((i:Int),l,m)=ag (((i+1:Nat):Int),l.set i (f c),m.set i (g c)))
  (hE:∀ ag l m,F ag (((C.length:Nat):Int),l,m)=KX l m):Q9 F Qd (0,C.map bu,C.map cb)=KX (C.map f) (C.map g):=by
 have key:∀ (r p:List aA) (fuel:Nat),C=p++r->r.length < fuel->Q9 F fuel (((p.length:Nat):Int),p.map f++r.map bu,p.map g++r.map cb)=KX (C.map f) (C.map g):=by
  intro r
  induction r with
  | nil =>
   intro p fuel e h
   obtain ⟨n,rfl⟩:∃ n,fuel=n+1:=⟨fuel - 1,by omega⟩
   rw [List.append_nil] at e
   subst e
   simp only [Q9,List.map_nil,List.append_nil]
   exact hE _ _ _
  | cons c r ih =>
   intro p fuel e h
   obtain ⟨n,rfl⟩:∃ n,fuel=n+1:=⟨fuel - 1,by omega⟩
   simp only [Z9] at h
   simp only [Q9,List.map_cons]
   rw [hF _ p.length c _ _ (by rw [e];simp) (by simp) (by simp)]
   have:=ih (p++[c]) n (by rw [e];simp) (by omega)
   rw [Zf,List.map_append,List.map_append,List.append_assoc,List.append_assoc] at this
   simp only [Z9,Zb,List.map_cons,List.map_nil,List.singleton_append] at this
   have e1:=FR (p:=p.map f) (r:=r.map bu) (x:=bu c) (y:=f c)
   have e2:=FR (p:=p.map g) (r:=r.map cb) (x:=cb c) (y:=g c)
   rw [List.length_map] at e1 e2
   rw [e1,e2]
   exact this
 exact key C [] Qd rfl (by rw [Q6];omega)
def Sl (b n:Int):Int:=if b < n then b else n
theorem Sm {b n:Int}:min n b=Sl b n:=by unfold Sl;rw [Int.min_def];split<;>split<;>omega
def DQ (old:List aA) (ts:List Int) (k:aA) (b:Int):Int:=if 0<=bK old k.1 then Sl b (ts.getD (bK old k.1).toNat 0) else b
def Bc (r:Rg) (x:Ld):Tk:=(x.2.1.map fun k=>DQ r.1.2.1 r.2.1.1 k k.2.2.2.2.1,x.2.1.map fun k=>DQ r.1.2.1 r.2.1.2 k k.2.2.2.2.2.1)
abbrev Ls:=List Int×List (List Pk)
def oJ (x:Ld) (t:Ls) (p:Pk):Ls:=DR x t.2 p (t.1++[p.1],t.2) (fun _=>(t.1++[p.1],t.2)) (fun _=>(t.1,Ja x t.2 p))
def Bd (r:Rg) (x:Ld):Ls:=r.2.2.1.foldl (fun t q=>q.foldl (oJ x) t) ([],List.replicate (bU x.2.2.2.1).length [])
def vU (r:Rg):Int:=if r.2.2.2.1 < 0 then 0 else (aU r.1.2.1 ((bU r.1.2.2.2.1).getD r.2.2.2.1.toNat 0)).1
def B5 (r:Rg) (x:Ld):Int:=fB (fun w=>(aU x.2.1 w).1==vU r) (bU x.2.2.2.1) 0
def FT (r:Rg) (x:Ld):Rg×List Int:=((x,Bc r x,(Bd r x).2,B5 r x,r.2.2.2.2),(Bd r x).1)
def K7 (x:Ld) (t:Ls) (n:Nat):Prop:=Pu x t.2/\t.1.length+n<=100000
def gS (x:Ld) (t:Ls) (n:Nat):Prop:=Pu x t.2/\t.1.length+60*n<=100000
theorem Sn {x:Ld} {rows:List (List Pk)} {p:Pk} (P:Pu x rows) (h:¬ cG x p < 0) (hn:¬ (((rW x rows p).length:Nat):Int)=mZ x (cG x p)):Pu x (Ja x rows p):=by
 have a:=So P h
 have hl:=a.ai
 refine ⟨P.lk,P.lr,P.lf,by unfold Ja;rw [List.length_set];exact P.rl,fun k w hw=>?_⟩
 have:=P.lm k w hw
 unfold Ja
 rw [Zr,List.getElem?_set]
 split
 .rename_i e
  rw [<- e,a.get] at hw
  injection hw with hw
  rw [if_pos a.lt]
  simp only [Option.getD_some,Zf,Z9,Zb]
  rw [<- hw];omega
 .rw [<- Zr];exact this
theorem Sp {x:Ld} {t:Ls} {p:Pk} {n:Nat} (h:K7 x t (n+1)):K7 x (oJ x t p) n:=by
 obtain ⟨P,hn⟩:=h
 unfold oJ DR
 split
 .exact ⟨P,by simp;omega⟩
 .split
  .exact ⟨P,by simp;omega⟩
  .rename_i h1 h2
   exact ⟨Sn P h1 h2,by simp only;omega⟩
theorem Sq {x:Ld} {t:Ls} {q:List Pk} {n:Nat} (hq:q.length<=60) (h:gS x t (n+1)):gS x (q.foldl (oJ x) t) n:=by
 have:=ZO (f:=oJ x) (K7 x) q t (60*n) ⟨h.1,by have:=h.2;omega⟩ (fun p _ t n h=>Sp h)
 exact ⟨this.1,this.2⟩
theorem Qyy {x:Ld} (h:eW x=true):Pu x (List.replicate (bU x.2.2.2.1).length []):=by
 have L:=vV h
 have R:=Jb h
 refine ⟨L,R,fun p=>Sr h p,by rw [List.length_replicate],fun k w hw=>?_⟩
 have hk:=(Z0 hw).1
 rw [Zr,List.getElem?_replicate,if_pos hk]
 have hm:=Zc hw
 obtain ⟨v1,v2⟩:=FU hm
 have hf:=L.fl
 exact R.l0 _ (Zc (fF ⟨v1,by omega⟩))
theorem Ss {x:Ld} (h:eW x=true) {n:Nat} (hn:n<=1000):gS x ([],List.replicate (bU x.2.2.2.1).length []) n:=⟨Qyy h,by simp;omega⟩
theorem Su {d:Nat} {r:Rg} {x:Ld} {KX:List Int->List Int->Option (Rg×List Int)} (O:Ro r) (hx:x.2.1.length<=1000):Q9 (lz d r x KX) Qd (0,(B6 x).1,(B6 x).2)=KX (Bc r x).1 (Bc r x).2:=by
 have iI:=O.lk.fL
 refine ZP (C:=x.2.1) (bu:=fun k=>k.2.2.2.2.1) (cb:=fun k=>k.2.2.2.2.2.1) (f:=fun k=>DQ r.1.2.1 r.2.1.1 k k.2.2.2.2.1) (g:=fun k=>DQ r.1.2.1 r.2.1.2 k k.2.2.2.2.2.1) hx ?_ ?_
 .intro ag i c l m hc hl hm
  have hi:=(Z0 hc).1
  have iz:=(Z0 hl).1
  have OY:=(Z0 hm).1
  simp only [lz,bV hc,nn,Q3,hc,Q8,Q4,tJ hc]
  refine (Qc (fun (t:Int) (j:Int)=>(t,j)) r.1.2.1 (fun y j t k=>aa (y.1==c.1) (cD d r ag ((i:Nat):Int) l m c ((j:Nat):Int)) (k t)) (fun _=>cD d r ag ((i:Nat):Int) l m c (-1)) ?_ ?_ (by rw [Q6];omega) 0).trans ((Sk (J:=fun n=>cD d r ag ((i:Nat):Int) l m c n) r.1.2.1 0 0).trans ?_)
  .intro ag t i x hx;have hi:=(Z0 hx).1;simp only [ga,bV hx,nn,Q3,hx,Q8,Q4];rw [aN (by omega)]
  .intro ag t;simp only [ga,bD,Q5];rfl
  .show cD d r ag ((i:Nat):Int) l m c (bK r.1.2.1 c.1)=_
   unfold cD DQ
   by_cases h:0<=bK r.1.2.1 c.1
   .have au:=B7 (l:=r.1.2.1) (id:=c.1)
    have t1:=O.t1
    have t2:=O.t2
    have e1:r.2.1.1[(bK r.1.2.1 c.1).toNat]? = some (r.2.1.1.getD (bK r.1.2.1 c.1).toNat 0):=nI (by omega)
    have e2:r.2.1.2[(bK r.1.2.1 c.1).toNat]? = some (r.2.1.2.getD (bK r.1.2.1 c.1).toNat 0):=nI (by omega)
    rw [Z5 (show bK r.1.2.1 c.1>=0 from h),Q4,e1,e2]
    simp only [nn,Q3,Q4,Q8,Qo iz,Qo OY,hl,hm]
    rw [aN (by omega),if_pos h,if_pos h]
    rfl
   .rw [Z4 (show ¬ bK r.1.2.1 c.1>=0 from h),Q5,aN (by omega),if_neg h,if_neg h,K6 hl,K6 hm]
 .intro ag l m;simp only [lz,bD,Q5]
theorem Sv {d:Nat} {x:Ld} {q:List Pk} {kx:Int->List Int->List (List Pk)->Option (Rg×List Int)} {t:Ls} {n:Nat} (hq:q.length<=60) (h:gS x t (n+1)):Q9 (lA (d+3) x q kx) Qd (t.1,0,t.2)=kx ((q.length:Nat):Int) (q.foldl (oJ x) t).1 (q.foldl (oJ x) t).2:=by
 refine OX (fun (t:Ls) (i:Int)=>(t.1,i,t.2)) (fin:=fun t=>kx ((q.length:Nat):Int) t.1 t.2) (f:=oJ x) (K7 x) q (by omega) (fun ag t i p n hp hI=>?_) (fun p _ t n h=>Sp h) (fun ag t=>?_) (60*n) t ⟨h.1,by have:=h.2;omega⟩
 .obtain ⟨P,hn⟩:=hI
  have hi:=(Z0 hp).1
  simp only [lA,bV hp,nn,Q3,hp,Q8,Q4]
  rw [show d+3+1=d+4 by omega,ZQ P.lr,Q8]
  refine (Sw (d:=d+3) (x:=x) (rows:=t.2) (p:=p) (A:=cE (d+3) ag t.1 ((i:Nat):Int) p 3 0 t.2) (B:=fun y=>cE (d+3) ag t.1 ((i:Nat):Int) p 2 y.1 t.2) (C:=fun y rows=>cE (d+3) ag t.1 ((i:Nat):Int) p 1 y.1 rows) P).trans ?_
  unfold oJ DR cE
  split
  .rw [show ((3:Int) != 1)=true from rfl,Q4,room (by simp;omega),Q4,aN (by omega)]
  .split
   .rw [show ((2:Int) != 1)=true from rfl,Q4,room (by simp;omega),Q4,aN (by omega)]
   .rw [show ((1:Int) != 1)=false from rfl,Q5,aN (by omega)]
 .simp only [lA,bD,Q5]
theorem Qyz {d:Nat} {r:Rg} {x:Ld} {kx:List Int->List (List Pk)->Option (Rg×List Int)} (O:Ro r) (h:eW x=true):Q9 (lB (d+3) r x kx) Qd ([],0,List.replicate (bU x.2.2.2.1).length [])=kx (Bd r x).1 (Bd r x).2:=by
 have hb:=Sx O
 refine OX (fun (t:Ls) (i:Int)=>(t.1,i,t.2)) (fin:=fun t=>kx t.1 t.2) (f:=fun t q=>q.foldl (oJ x) t) (gS x) r.2.2.1 (by omega) (fun ag t i q n hq hI=>?_) (fun q hq t n h=>Sq (O.rb q hq) h) (fun ag t=>?_) 0 ([],_) (Ss h (by omega))
 .have hi:=(Z0 hq).1
  simp only [lB,bV hq,nn,Q3,hq,Q8,Q4]
  refine (Sv (O.rb q (Zc hq)) hI).trans ?_
  unfold wY
  rw [aN (by omega)]
 .simp only [lB,bD,Q5]
theorem ZR {r:Rg} (O:Ro r) (h:¬ r.2.2.2.1 < 0):(bU r.1.2.2.2.1)[r.2.2.2.1.toNat]? = some ((bU r.1.2.2.2.1).getD r.2.2.2.1.toNat 0)/\vI r.1.2.1 ((bU r.1.2.2.2.1).getD r.2.2.2.1.toNat 0):=by
 have la:=O.la
 have hf:=O.lk.fl
 have hg:=nI (l:=bU r.1.2.2.2.1) (i:=r.2.2.2.1.toNat) (z:=0) (by omega)
 obtain ⟨v1,v2⟩:=FU (Zc hg)
 exact ⟨hg,v1,by omega⟩
theorem Jc {x:Ld} (L:Lk x) {w:Int} (h:w∈bU x.2.2.2.1):vI x.2.1 w:=by
 have hf:=L.fl
 obtain ⟨v1,v2⟩:=FU h
 exact ⟨v1,by omega⟩
theorem Sy {r:Rg} {x:Ld} (h:eW x=true) (h0:r.2.2.2.1 < 0):B5 r x=-1:=by
 unfold B5 vU
 rw [if_pos h0]
 refine OW _ _ fun w hw=>?_
 have:=Sj h (Jc (vV h) hw)
 rw [beq_eq_false_iff_ne];omega
theorem Qz0 {d:Nat} {r:Rg} {x:Ld} {a b lost:List Int} {rows:List (List Pk)} (O:Ro r) (h:eW x=true):pg (d+3) r x a b lost rows=some ((x,(a,b),rows,B5 r x,r.2.2.2.2),lost):=by
 have L:=vV h
 have iI:=L.fL
 have hf:=L.fl
 have hv:=Be (F:=x.2.2.2.1)
 have pn:=O.lk.fL
 unfold pg
 by_cases h0:r.2.2.2.1 < 0
 .rw [Z4 (show ¬ r.2.2.2.1>=0 by omega),Q5,Sy h h0]
 .obtain ⟨g1,g2⟩:=ZR O h0
  have au:=(Z0 g1).1
  rw [Z5 (show r.2.2.2.1>=0 by omega),Q4,show d+3+2=d+4+1 by omega,K8 (by omega) O.lk.fl,Q8,Q4,Qo au,Q4,g1,Q8,Z5 g2.1,Q4,fF g2,Q8,K8 (by omega) hf,Q8]
  have hl:(aU r.1.2.1 ((bU r.1.2.2.2.1).getD r.2.2.2.1.toNat 0)).1=vU r:=by unfold vU;rw [if_neg h0]
  refine (Qc (fun (t:Int) (j:Int)=>(t,j)) (bU x.2.2.2.1) (fun w j t k=>aa ((aU x.2.1 w).1==vU r) (some (((x,(a,b),rows,((j:Nat):Int),r.2.2.2.2):Rg),lost)) (k t)) (fun _=>some (((x,(a,b),rows,(-1),r.2.2.2.2):Rg),lost)) ?_ ?_ (by rw [Q6];omega) 0).trans (Sk (J:=fun n=>some (((x,(a,b),rows,n,r.2.2.2.2):Rg),lost)) (bU x.2.2.2.1) 0 0)
  .intro ag t i w hx
   have hi:=(Z0 hx).1
   have hw:=Jc L (Zc hx)
   simp only [gb,bV hx,nn,Q3,hx,Q8,Q4,tJ hx]
   rw [Z5 hw.1,Q4,Qo (by have:=hw;unfold vI at this;omega),Q4,fF hw,Q8,aN (by omega),hl]
  .intro ag t;simp only [gb,bD,Q5];rfl
theorem Qb5 {d:Nat} {r:Rg} {c:Cf} (hr:j7 r=true) (hc:fA c=true):FV (d+17) r c=some (FT r (bT c)):=by
 have O:=OZ hr
 have h:=OU hc
 have L:=vV h
 have iI:=L.fL
 have hf:=L.fl
 have hv:=Be (F:=(bT c).2.2.2.1)
 rw [show d+17=d+14+3 by omega,Sz,show d+14+2=d+2+14 by omega,ZS (rV hc),Q8,show d+2+14=d+15+1 by omega,Qhq (by omega),Q8,K8 (by omega) hf,Q8]
 rw [nn,Q4,Q4,Q3,show (Nat.ble (bU (bT c).2.2.2.1).length (bU (bT c).2.2.2.1).length&&Nat.ble ((bU (bT c).2.2.2.1).length*24) Q7)=true by rw [Z8,Nat.ble_eq,Nat.ble_eq];unfold Q7;omega,Q4]
 refine (Su O (by omega)).trans ?_
 unfold wZ
 rw [Q3]
 refine (Qyz (d:=d+11) O h).trans ?_
 exact Qz0 (d:=d+11) O h
theorem Qw7 {d:Nat} {c:Cf} (hc:fA c=true):SA (d+11) c=some (bT c,B6 (bT c),List.replicate (bU (bT c).2.2.2.1).length [],-1,0):=by
 have L:=vV (OU hc)
 have iI:=L.fL
 have hf:=L.fl
 have hv:=Be (F:=(bT c).2.2.2.1)
 rw [e98,ZT (rV hc),Q8,show d+10=d+9+1 by omega,Qtf (by omega),Q8,show d+9+1=d+8+2 by omega,Jd (by omega) hf,Q8]
 rw [nn,Q4,Q4,Q3,show (Nat.ble (bU (bT c).2.2.2.1).length (bU (bT c).2.2.2.1).length&&Nat.ble ((bU (bT c).2.2.2.1).length*24) Q7)=true by rw [Z8,Nat.ble_eq,Nat.ble_eq];unfold Q7;omega,Q4]
theorem SB {d:Nat} {r z:Rg} {KX:List Int->List Int->Option (Rg×List Int)} (O:Ro r) (hx:z.1.2.1.length<=1000):Q9 (rX d r z KX) Qd (0,(B6 z.1).1,(B6 z.1).2)=KX (Bc r z.1).1 (Bc r z.1).2:=by
 have iI:=O.lk.fL
 refine ZP (C:=z.1.2.1) (bu:=fun k=>k.2.2.2.2.1) (cb:=fun k=>k.2.2.2.2.2.1) (f:=fun k=>DQ r.1.2.1 r.2.1.1 k k.2.2.2.2.1) (g:=fun k=>DQ r.1.2.1 r.2.1.2 k k.2.2.2.2.2.1) hx ?_ ?_
 .intro ag i c l m hc hl hm
  have hi:=(Z0 hc).1
  have iz:=(Z0 hl).1
  have OY:=(Z0 hm).1
  simp only [rX,bV hc,nn,Q3,hc,Q8,Q4,tJ hc]
  rw [Qzy (by omega),Q8]
  unfold DQ
  by_cases h:0<=bK r.1.2.1 c.1
  .have au:=B7 (l:=r.1.2.1) (id:=c.1)
   have t1:=O.t1
   have t2:=O.t2
   have e1:r.2.1.1[(bK r.1.2.1 c.1).toNat]? = some (r.2.1.1.getD (bK r.1.2.1 c.1).toNat 0):=nI (by omega)
   have e2:r.2.1.2[(bK r.1.2.1 c.1).toNat]? = some (r.2.1.2.getD (bK r.1.2.1 c.1).toNat 0):=nI (by omega)
   rw [Z5 (show bK r.1.2.1 c.1>=0 from h),Q4,e1,e2]
   simp only [nn,Q3,Q4,Q8,Qo iz,Qo OY,hl,hm,Qoz,Sm]
   rw [aN (by omega),if_pos h,if_pos h]
  .rw [Z4 (show ¬ bK r.1.2.1 c.1>=0 from h),Q5,aN (by omega),if_neg h,if_neg h,K6 hl,K6 hm]
 .intro ag l m;simp only [rX,bD,Q5]
theorem SC {d:Nat} {x1:ByteArray} {x2:List aA} {x3 x4 x5 x6:List Int} {x7:List dY} {x8:List Int} {x9:Int} {q:List Pk} {kx:Int->List Int->List (List Pk)->Option (Rg×List Int)} {t:Ls} {n:Nat} (hq:q.length<=60) (h:gS (x1,x2,x3,x4,x5,x6,x7,x8,x9) t (n+1)):Q9 (rY (d+4) x1 x9 x2 x3 x4 x5 x6 x7 x8 q kx) Qd (t.1,0,t.2)=kx ((q.length:Nat):Int) (q.foldl (oJ (x1,x2,x3,x4,x5,x6,x7,x8,x9)) t).1 (q.foldl (oJ (x1,x2,x3,x4,x5,x6,x7,x8,x9)) t).2:=by
 refine OX (fun (t:Ls) (i:Int)=>(t.1,i,t.2)) (fin:=fun t=>kx ((q.length:Nat):Int) t.1 t.2) (f:=oJ (x1,x2,x3,x4,x5,x6,x7,x8,x9)) (K7 (x1,x2,x3,x4,x5,x6,x7,x8,x9)) q (by omega) (fun ag t i p n hp hI=>?_) (fun p _ t n h=>Sp h) (fun ag t=>?_) (60*n) t ⟨h.1,by have:=h.2;omega⟩
 .obtain ⟨P,hn⟩:=hI
  have hi:=(Z0 hp).1
  simp only [rY,bV hp,nn,Q3,hp,Q8,Q4]
  rw [ZU P.lr,Q8]
  refine (SD (x:=(x1,x2,x3,x4,x5,x6,x7,x8,x9)) (rows:=t.2) (p:=p) (A:=cW (d+4) ag t.1 ((i:Nat):Int) p 3 0 t.2) (B:=fun y=>cW (d+4) ag t.1 ((i:Nat):Int) p 2 y.1 t.2) (C:=fun y rows=>cW (d+4) ag t.1 ((i:Nat):Int) p 1 y.1 rows) P (fun a y=>?_)).trans ?_
  .have iI:=P.lk.fL
   refine (Qzz (d:=d+2) (K:=fun k=>hO (d+4) ag t.1 ((i:Nat):Int) t.2 p y k) a (by omega) P.lk.fl (fun ag k=>?_)).trans ?_
   .simp only [kH]
   .unfold hO SE;rfl
  .unfold oJ DR cW
   split
   .rw [show ((3:Int) != 1)=true from rfl,Q4,room (by simp;omega),Q4,aN (by omega)]
   .split
    .rw [show ((2:Int) != 1)=true from rfl,Q4,room (by simp;omega),Q4,aN (by omega)]
    .rw [show ((1:Int) != 1)=false from rfl,Q5,aN (by omega)]
 .simp only [rY,bD,Q5]
theorem Qz1 {d:Nat} {r:Rg} {x:Ld} {kx:List Int->List (List Pk)->Option (Rg×List Int)} (O:Ro r) (h:eW x=true):Q9 (rZ (d+4) r x.1 x.2.2.2.2.2.2.2.2 x.2.1 x.2.2.1 x.2.2.2.1 x.2.2.2.2.1 x.2.2.2.2.2.1 x.2.2.2.2.2.2.1 x.2.2.2.2.2.2.2.1 kx) Qd ([],0,List.replicate (bU x.2.2.2.1).length [])=kx (Bd r x).1 (Bd r x).2:=by
 have hb:=Sx O
 refine OX (fun (t:Ls) (i:Int)=>(t.1,i,t.2)) (fin:=fun t=>kx t.1 t.2) (f:=fun t q=>q.foldl (oJ x) t) (gS x) r.2.2.1 (by omega) (fun ag t i q n hq hI=>?_) (fun q hq t n h=>Sq (O.rb q hq) h) (fun ag t=>?_) 0 ([],_) (Ss h (by omega))
 .have hi:=(Z0 hq).1
  simp only [rZ,bV hq,nn,Q3,hq,Q8,Q4]
  refine (SC (O.rb q (Zc hq)) hI).trans ?_
  unfold DS
  rw [aN (by omega)]
 .simp only [rZ,bD,Q5]
theorem Qsh {d:Nat} {r:Rg} (O:Ro r):FW (d+3) r=some (vU r):=by
 have pn:=O.lk.fL
 rw [SF]
 unfold vU
 by_cases h0:r.2.2.2.1 < 0
 .rw [Z5 h0,Q4,if_pos h0]
 .obtain ⟨g1,g2⟩:=ZR O h0
  have au:=(Z0 g1).1
  rw [Z4 h0,Q5,Jd (by omega) O.lk.fl,Q8,Z5 (show 0<=r.2.2.2.1 by omega),Q4,Qo au,Q4,g1,Q8,Z5 g2.1,Q4,fF g2,Q8,if_neg h0]
theorem Qw8 {x:Ld} (h:eW x=true) {n:Int}:(bU x.2.2.2.1).Pairwise (fun a b=>¬ (((aU x.2.1 a).1==n)=true/\((aU x.2.1 b).1==n)=true)):=by
 refine (List.nodup_iff_pairwise_ne.1 SG).imp_of_mem fun {a b} ha hb aV ⟨e1,e2⟩=>aV ?_
 exact Sh h (Jc (vV h) ha) (Jc (vV h) hb) ((beq_iff_eq.1 e1).trans (beq_iff_eq.1 e2).symm)
theorem Qjn {d:Nat} {r:Rg} {c:Cf} (hr:j7 r=true) (hc:fA c=true):SH (d+12) r c=some (FT r (bT c)):=by
 have O:=OZ hr
 have h:=OU hc
 have L:=vV h
 have iI:=L.fL
 have hf:=L.fl
 have hv:=Be (F:=(bT c).2.2.2.1)
 rw [show d+12=d+10+2 by omega,e65,show d+10+1=d+11 by omega,Qw7 hc,Q8]
 generalize bT c=x at *
 refine (SB (z:=(x,B6 x,List.replicate (bU x.2.2.2.1).length [],-1,0)) O (by show x.2.1.length<=1000;omega)).trans ?_
 show w4 (d+10) r (x,B6 x,List.replicate (bU x.2.2.2.1).length [],-1,0) (Bc r x).1 (Bc r x).2=_
 unfold w4
 simp only []
 rw [show d+10+1=d+9+2 by omega,Jd (by omega) hf,Q8]
 refine (Qc (fun (t:Int) (i:Int)=>(i,((x,Bc r x,List.replicate (bU x.2.2.2.1).length [],t,r.2.2.2.2):Rg))) (bU x.2.2.2.1) (fun w i t k=>k (if ((aU x.2.1 w).1==vU r)=true then ((i:Nat):Int) else t)) (fun t=>w5 (d+10) r x.1 x.2.2.2.2.2.2.2.2 t r.2.2.2.2 x.2.1 x.2.2.1 x.2.2.2.1 x.2.2.2.2.1 x.2.2.2.2.2.1 x.2.2.2.2.2.2.1 x.2.2.2.2.2.2.2.1 (Bc r x).1 (Bc r x).2 (List.replicate (bU x.2.2.2.1).length [])) ?_ ?_ (by rw [Q6];omega) (-1)).trans ?_
 .intro ag t i w hx
  have hi:=(Z0 hx).1
  have hw:=Jc L (Zc hx)
  simp only [w6,bV hx,nn,Q3,hx,Q8,Q4,tJ hx]
  rw [Z5 hw.1,Q4,Qo (by have:=hw;unfold vI at this;omega),Q4,fF hw,Q8,show d+10+1=d+8+3 by omega,Qsh O,Q8,aN (by omega)]
  cases ((aU x.2.1 w).1==vU r)<;>rfl
 .intro ag t;simp only [w6,bD,Q5]
 .rw [w7 (f:=fun w i (t:Int)=>if ((aU x.2.1 w).1==vU r)=true then ((i:Nat):Int) else t),ZN (p:=fun w=>(aU x.2.1 w).1==vU r) _ _ _ (Qw8 h)]
  have DT:I_ (fB (fun w=>(aU x.2.1 w).1==vU r) (bU x.2.2.2.1) 0) (-1)=B5 r x:=by
   show I_ (B5 r x) (-1)=B5 r x
   unfold I_
   split
   .rfl
   .rename_i hn
    have:B5 r x < 0:=by omega
    unfold B5 at this ⊢
    exact (OW _ _ (K9.1 this)).symm
  rw [DT]
  unfold w5
  refine (Qz1 (d:=d+6) O h).trans ?_
  rfl
def zR:Rg:=((⟨#[]⟩,[],[],[],[],[],[],[],0),([],[]),[],0,0)
abbrev Rr:=Rg×List Int×Bool
def Je:Rr:=(zR,[],false)
def DU (r:Rg) (c:Cf):Rr:=if fA c=true then ((FT r (bT c)).1,(FT r (bT c)).2,true) else Je
def SI (r:Rg) (c:Cf):Rr:=if j7 r=true then DU r c else Je
theorem Qb6 {d:Nat} {r:Rg} {c:Cf} (h:w8 r.1) (hl:c.2.1.length < 4000000) (hf:c.2.2.1.length < 4000000):O0 (d+29) r c=some (SI r c):=by
 rw [e72,ZV h,Q8]
 try unfold w9
 unfold SI DU
 cases hg:j7 r with
 | false=>rfl
 | true =>
  rw [Zl,Q5,show d+28=(d+20)+8 by omega,O1 hl hf,Q8,if_pos rfl]
  cases hc:fA c with
  | false=>rfl
  | true=>rw [Zl,Q5,show d+20+8=d+11+17 by omega,Qb5 hg hc,Q8,if_pos rfl]
theorem Qmy {d:Nat} {r:Rg} {c:Cf} (hr:j7 r=true) (hs:c.1.size < 4000000) (hf:c.2.2.1.length < 4000000):K_ (d+13) r c true=some (DU r c):=by
 rw [ZW,Zl,Q5,show d+12=d+7+5 by omega,O2 hs hf,Q8]
 unfold DU
 cases hc:fA c with
 | false=>rfl
 | true=>rw [Zl,Q5,show d+7+5=d+12 by omega,Qjn hr hc,Q8,if_pos rfl]
theorem ZX {x:Ld}:∀ (l:List (List Pk)) (t:Ls) (n:Nat),(∀ q∈l,q.length<=60)->gS x t (l.length+n)->gS x (l.foldl (fun t q=>q.foldl (oJ x) t) t) n
 | [],t,n,_,h=>by simpa using h
 | q::l,t,n,hq,h=>by
  rw [show (q::l).length+n=l.length+n+1 by simp;omega] at h
  exact ZX l _ n (fun z hz=>hq z (by simp [hz])) (Sq (hq q (by simp)) h)
theorem SJ {r:Rg} {x:Ld} (O:Ro r) (h:eW x=true):gS x (Bd r x) 0:=ZX r.2.2.1 _ 0 O.rb (Ss h (by have:=Sx O;omega))
theorem FX:w_ zR:=⟨⟨by show (0:Nat)<=_;omega,Nat.zero_le _,Nat.zero_le _,Nat.zero_le _,Nat.zero_le _,Nat.zero_le _,Nat.zero_le _,Nat.zero_le _⟩,⟨Nat.zero_le _,Nat.zero_le _⟩,Nat.zero_le _,fun q hq=>by simp [zR] at hq⟩
theorem SK {r:Rg} {c:Cf} (hr:j7 r=true) (hs:c.1.size<=1048576) (hc:fA c=true):w_ (FT r (bT c)).1/\(FT r (bT c)).2.length<=100000:=by
 have O:=OZ hr
 have h:=OU hc
 have L:=vV h
 have iI:=L.fL
 have hp:=L.pl
 have hf:=L.fl
 have FY:=(Jb h).f16
 obtain ⟨n1,n2,n3⟩:=Qx6 h
 have hv:=Be (F:=(bT c).2.2.2.1)
 obtain ⟨P,hn⟩:=SJ O h
 have kI:=P.rl
 refine ⟨⟨⟨hs,by show (bT c).2.1.length<=_;omega,by show (bT c).2.2.1.length<=_;omega,by show (bT c).2.2.2.1.length<=_;omega,by show (bT c).2.2.2.2.1.length<=_;omega,by show (bT c).2.2.2.2.2.1.length<=_;omega,by show (bT c).2.2.2.2.2.2.1.length<=_;omega,by show (bT c).2.2.2.2.2.2.2.1.length<=_;omega⟩,⟨?_,?_⟩,?_,fun q hq=>?_⟩,by show (Bd r (bT c)).1.length<=_;omega⟩
 .show ((bT c).2.1.map _).length<=_;rw [List.length_map];omega
 .show ((bT c).2.1.map _).length<=_;rw [List.length_map];omega
 .show (Bd r (bT c)).2.length<=_;omega
 .obtain ⟨k,hk⟩:=List.getElem?_of_mem (show q∈(Bd r (bT c)).2 from hq)
  have au:=(Z0 hk).1
  have hw:=Z6 (l:=bU (bT c).2.2.2.1) (i:=k) (by omega)
  have:=P.lm k _ hw
  rw [Zr,hk] at this
  have Jf:=(Jb h).ai _ (Zc (fF (Jc L (Zc hw))))
  unfold mZ at this
  simp only [Option.getD_some] at this
  omega
theorem SL {r:Rg} {c:Cf} (hr:j7 r=true) (hs:c.1.size<=1048576):w_ (DU r c).1/\(DU r c).2.1.length<=1048576:=by
 unfold DU
 split
 .rename_i hc;obtain ⟨h1,h2⟩:=SK hr hs hc;exact ⟨h1,by show (FT r (bT c)).2.length<=_;omega⟩
 .exact ⟨FX,Nat.zero_le _⟩
theorem w_.en {r:Rg} (h:w_ r):xd r<=40000000:=by
 have hf:=h.l.2
 obtain ⟨h1,⟨h2,h3⟩,_,_⟩:=h
 have:=O3 (k:=1) h1
 unfold xd Jg;omega
theorem Qw9 {d:Nat} {r:Rg} {c:Cf}:K_ (d+1) r c false=some Je:=by
 rw [ZW,Bool.not_false,Q4];rfl
def xe (c:Cf):Cf×Bool:=if fA c=true then (c,true) else (zC,false)
theorem Qmz {d:Nat} {c:Cf} (hl:c.2.1.length < 4000000) (hf:c.2.2.1.length < 4000000):La (d+9) c=some (xe c):=by
 rw [e77,O1 hl hf,Q8]
 unfold xe
 cases hg:fA c with
 | false=>rfl
 | true=>rw [if_pos rfl,Zl,Q5]
theorem Qz3 {d:Nat} {c:Cf} (hs:c.1.size < 4000000) (hf:c.2.2.1.length < 4000000):Lb (d+6) c=some (xe c):=by
 rw [e63,O2 hs hf,Q8]
 unfold xe
 cases hg:fA c with
 | false=>rfl
 | true=>rw [if_pos rfl,Zl,Q5]
theorem Qer {d:Nat} {c:Cf} (hl:c.2.1.length<=1000) (hf:c.2.2.1.length<=1000):SM (d+2) c=some c:=by
 rw [e76,ZY hl,Q8,SN (by omega),Q8]
def DV (r:Rg) (z:Cf×Bool):Rr:=if z.2=true then DU r z.1 else Je
theorem Qwa {d:Nat} {r:Rg} {z:Cf×Bool} (h:w8 r.1) (hr:j7 r=true) (hl:z.1.2.1.length < 4000000) (hf:z.1.2.2.1.length < 4000000):aa (!z.2) (some Je) (Q1 (O0 (d+29) r z.1) fun w=>some (w.1,w.2.1,w.2.2))=some (DV r z):=by
 unfold DV
 cases hz:z.2 with
 | false=>rfl
 | true =>
  rw [Zl,Q5,Qb6 h hl hf,Q8,if_pos rfl]
  unfold SI
  rw [if_pos hr]
theorem Qwb {d:Nat} {r:Rg} {z:Cf×Bool} (hr:j7 r=true) (hs:z.1.1.size < 4000000) (hf:z.1.2.2.1.length < 4000000):Q1 (K_ (d+13) r z.1 z.2) (fun w=>some (w.1,w.2.1,w.2.2))=some (DV r z):=by
 unfold DV
 cases hz:z.2 with
 | false=>rw [show d+13=d+12+1 by omega,Qw9,Q8];rfl
 | true=>rw [Qmy hr hs hf,Q8,if_pos rfl]
theorem Qwc {c:Cf} (hs:c.1.size<=1048576) (hl:c.2.1.length<=1000) (hf:c.2.2.1.length<=1000):(xe c).1.1.size<=1048576/\(xe c).1.2.1.length<=1000/\(xe c).1.2.2.1.length<=1000:=by
 unfold xe
 split
 .exact ⟨hs,hl,hf⟩
 .exact ⟨by show (0:Nat)<=_;omega,Nat.zero_le _,Nat.zero_le _⟩
def SO (z:Cf×Bool):Prop:=z.1.1.size<=1048576/\z.1.2.1.length<=1000/\z.1.2.2.1.length<=1000
theorem Qz4 {r:Rg} {z:Cf×Bool} (hr:j7 r=true) (h:SO z):w_ (DV r z).1/\(DV r z).2.1.length<=1048576:=by
 unfold DV
 split
 .exact SL hr h.1
 .exact ⟨FX,Nat.zero_le _⟩
theorem SP:SO (zC,false):=⟨by show (0:Nat)<=_;omega,Nat.zero_le _,Nat.zero_le _⟩
def O4 (l:List aA) (i n:Int):List aA:=l.set i.toNat ((aU l i).1,(aU l i).2.1,(aU l i).2.2.1,(aU l i).2.2.2.1,(aU l i).2.2.2.2.1,(aU l i).2.2.2.2.2.1,(aU l i).2.2.2.2.2.2.1,n)
def iJ (l:List aA) (k:Nat):List aA:=l.take k++l.drop (k+1)
def Jh (l:List aA) (x:aA):List aA:=if (decide (0<=bK l x.2.1)&&fS l x.2.1)=true then O4 l (bK l x.2.1) x.2.2.2.2.2.2.2 else l
def SQ (l:List aA) (i:Int):List aA:=Jh (iJ l i.toNat) (aU l i)
def FZ (c:Cf) (id:Int):Cf×Bool:=if (fA c&&oK c.2.1 id)=true then xe (c.1,SQ c.2.1 (bK c.2.1 id),c.2.2) else (zC,false)
theorem SS {l:List aA} {k:Nat}:(iJ l k).length<=l.length:=by unfold iJ;simp;omega
theorem Qwd {l:List aA} {x:aA}:(Jh l x).length=l.length:=by
 unfold Jh
 split
 .unfold O4;rw [List.length_set]
 .rfl
theorem ZZ {p:aA->Bool}:∀ (l:List aA) (i:Nat),fG (fun x _=>p x) (fun x _=>x) l i=l.filter p
 | [],i=>rfl
 | x::r,i=>by
  simp only [fG,List.filter_cons]
  rw [ZZ r (i+1)]
theorem Qjp {l:List aA} (hn:(l.map (·.1)).Nodup) {k:Nat} {x:aA} (hx:l[k]? = some x):l.filter (fun y=>y.1 != x.1)=iJ l k:=by
 obtain ⟨hk,he⟩:=Z0 hx
 have hd:l=l.take k++x::l.drop (k+1):=by
  have:=List.drop_eq_getElem_cons hk
  rw [he] at this
  rw [<- this,List.take_append_drop]
 have Lc:=hn
 rw [hd,List.map_append,List.map_cons] at Lc
 have gd:=List.nodup_append.1 Lc
 have h1:∀ y∈l.take k,(y.1 != x.1)=true:=fun y hy=>by
  rw [bne_iff_ne]
  exact gd.2.2 _ (List.mem_map.2 ⟨y,hy,rfl⟩) _ (by simp)
 have h2:∀ y∈l.drop (k+1),(y.1 != x.1)=true:=fun y hy=>by
  rw [bne_iff_ne]
  intro e
  exact (List.nodup_cons.1 gd.2.1).1 (List.mem_map.2 ⟨y,hy,e⟩)
 unfold iJ
 conv=>lhs;rw [hd]
 rw [List.filter_append,List.filter_cons,if_neg (by simp),List.filter_eq_self.2 h1,List.filter_eq_self.2 h2]
theorem SU {d:Nat} {l:List aA} {k:Nat} (hk:k < l.length) (hl:l.length<=1000):SV (d+1) l (k:Int) ((k+1:Nat):Int)=some (iJ l k):=by
 rw [e88,nn,Z5 (show ((k:Nat):Int) < ((k+1:Nat):Int) by omega),Z5 (show ((k+1:Nat):Int)<=((l.length:Nat):Int) by omega),pq (show l.length<=9223372036854775807 by omega)]
 simp only [Zg,Q4,Q3]
 rfl
theorem Qjq {d:Nat} {c:Cf} {id:Int} (hl:c.2.1.length<=1000) (hf:c.2.2.1.length<=1000):SW (d+10) c id=some (FZ c id):=by
 rw [e45,show d+9=d+1+8 by omega,O1 (by omega) (by omega),Q8]
 unfold FZ oK xg
 cases hg:fA c with
 | false=>rfl
 | true =>
  rw [Zl,Q5,show d+1+8=d+6+3 by omega,Le (by omega),Q8,Zg]
  by_cases h0:bK c.2.1 id < 0
  .rw [Z5 h0,Q4,Q4,Z4 (by omega),Bool.false_and];rfl
  .obtain ⟨k,x,h1,h2,h3⟩:=tI (l:=c.2.1) (id:=id) (by omega)
   have hk:=(Z0 h2).1
   have hlen:=SS (l:=c.2.1) (k:=k)
   rw [Z4 h0,Q5,Z5 (show 0<=bK c.2.1 id by omega),Zg,h1,show d+6+3=d+5+4 by omega,Lf h2 (by omega),Q8,h3]
   cases hv:fS c.2.1 id with
   | false=>rfl
   | true =>
    rw [Zl,Q5,Q4,Q3,h2,Q8,show d+5+4=d+7+2 by omega,Qer hl hf,Q8,aN (by omega),show d+7+2=d+8+1 by omega,SU hk hl,Q8]
    have hN:∀ m,DW (d+8+1) (c.1,iJ c.2.1 k,c.2.2) m=some (bK (iJ c.2.1 k) m):=fun m=>by rw [show d+8+1=d+6+3 by omega];exact Le (by show (iJ c.2.1 k).length < _;omega)
    have hI:∀ L:List aA,L.length<=1000->La (d+8+1) (c.1,L,c.2.2)=some (xe (c.1,L,c.2.2)):=fun L hL=>by rw [show d+8+1=d+9 by omega];exact Qmz (by show L.length < _;omega) (by show c.2.2.1.length < _;omega)
    rw [hN,Q8,if_pos rfl]
    unfold SQ Jh xh
    rw [Q3,jl h2]
    by_cases hp:bK (iJ c.2.1 k) x.2.1>=0
    .obtain ⟨m,y,p1,p2,p3⟩:=tI (l:=iJ c.2.1 k) (id:=x.2.1) hp
     have hm:=(Z0 p2).1
     rw [Z5 hp,Q4,p1,show d+8+1=d+5+4 by omega,Lf (c:=(c.1,iJ c.2.1 k,c.2.2)) p2 (by show (iJ c.2.1 k).length < _;omega),Q8,show d+5+4=d+8+1 by omega,p3]
     show aa (fS (iJ c.2.1 k) x.2.1) _ _=_
     cases hq:fS (iJ c.2.1 k) x.2.1 with
     | false=>rw [Q5,hI _ (by omega),Q8,Bool.and_false,if_neg (by simp)]
     | true =>
      rw [Q4,Q4,Q3,Qo hm,Q4,p2,Q8,hI _ (by rw [List.length_set];omega),Q8,Bool.and_true,if_pos (by simp)]
      unfold O4
      rw [Q3,jl p2]
    .rw [Z4 hp,Q5,Q5,hI _ (by omega),Q8,Bool.false_and,if_neg (by simp)]
theorem Qgr {d:Nat} {c:Cf} {id:Int} (hs:c.1.size < 4000000) (hl:c.2.1.length<=1000) (hf:c.2.2.1.length<=1000):SX (d+7) c id=some (FZ c id):=by
 rw [e43,show d+6=d+1+5 by omega,O2 hs (by omega),Q8]
 unfold FZ xj
 cases hg:fA c with
 | false=>rfl
 | true =>
  rw [Zl,Q5,show d+1+5=d+3+3 by omega,O5 hl,Q8,Zg]
  cases ht:oK c.2.1 id with
  | false=>rfl
  | true =>
   unfold oK at ht
   simp only [Z8,Zj] at ht
   obtain ⟨k,x,h1,h2,h3⟩:=tI ht.1
   have hk:=(Z0 h2).1
   have hlen:=SS (l:=c.2.1) (k:=k)
   have Z_:=Qjp (OT (OS hg)) h2
   rw [h3] at Z_
   rw [Zl,Q5,show d+3+3=d+5+1 by omega,F0 (by omega),Q8,h1,nn,Q4,Q3,h2,Q8,room (by simp;omega),Q4,List.nil_append,if_pos rfl]
   refine (Qc (fun (t:List aA) (i:Int)=>(i,((c.1,t,c.2.2.1,c.2.2.2):Cf))) c.2.1 (fun y _ t k=>aa (y.1 != id) (aa (Nat.ble ((t.length+[y].length)*64) Q7) (k (t++[y])) none) (k t)) (fun t=>xk (d+5+1) x c.1 c.2.2.2 t c.2.2.1) ?_ ?_ (by rw [Q6];omega) []).trans ?_
   .intro ag t i x hx;have hi:=(Z0 hx).1;simp only [xl,bV hx,nn,Q3,hx,Q8,Q4];rw [aN (by omega)]
   .intro ag t;simp only [xl,bD,Q5]
   .rw [B8 (c:=fun (y:aA) _=>y.1 != id) (e:=fun (y:aA) (_:Nat)=>y) (w:=64) c.2.1 0 [] (by simp;omega),List.nil_append,ZZ (p:=fun y=>y.1 != id),Z_]
    have hI:∀ L:List aA,L.length<=1000->Lb (d+5+1) (c.1,L,c.2.2.1,c.2.2.2)=some (xe (c.1,L,c.2.2)):=fun L hL=>by rw [show d+5+1=d+6 by omega];exact Qz3 hs (by show c.2.2.1.length < _;omega)
    unfold xk xm SQ Jh
    rw [F0 (by show (iJ c.2.1 k).length < _;omega),Q8,Q3,jl h2]
    show aa (decide (bK (iJ c.2.1 k) x.2.1>=0)) _ _=_
    by_cases hp:bK (iJ c.2.1 k) x.2.1>=0
    .obtain ⟨m,y,p1,p2,p3⟩:=tI (l:=iJ c.2.1 k) (id:=x.2.1) hp
     have hm:=(Z0 p2).1
     rw [Z5 hp,Q4]
     show Q1 (DX (d+5+1) (c.1,iJ c.2.1 k,c.2.2.1,c.2.2.2) (bK (iJ c.2.1 k) x.2.1)) _=_
     rw [p1,show d+5+1=d+4+2 by omega,SY (c:=(c.1,iJ c.2.1 k,c.2.2.1,c.2.2.2)) p2 (by show (iJ c.2.1 k).length<=_;omega),Q8,show d+4+2=d+5+1 by omega,p3]
     show aa (fS (iJ c.2.1 k) x.2.1) _ _=_
     cases hq:fS (iJ c.2.1 k) x.2.1 with
     | false=>rw [Q5,hI _ (by omega),Q8,Bool.and_false,if_neg (by simp)]
     | true =>
      rw [Q4,Q4,Q3,Qo hm,Q4,p2,Q8,hI _ (by rw [List.length_set];omega),Q8,Bool.and_true,if_pos (by simp)]
      unfold O4
      rw [Q3,jl p2]
    .rw [Z4 hp,Q5,Q5,hI _ (by omega),Q8,Bool.false_and,if_neg (by simp)]
theorem SZ {c:Cf} {id:Int} (hs:c.1.size<=1048576) (hl:c.2.1.length<=1000) (hf:c.2.2.1.length<=1000):SO (FZ c id):=by
 unfold FZ
 split
 .refine Qwc hs ?_ hf
  show (Jh _ _).length<=_
  rw [Qwd]
  exact Nat.le_trans SS hl
 .exact SP
def fT (r:Rg) (id:Int):Rr:=if j7 r=true then DV r (FZ (eR r.1) id) else Je
theorem Quo {r:Rg} {id:Int} (hs:r.1.1.size<=1048576):w_ (fT r id).1/\(fT r id).2.1.length<=1048576:=by
 unfold fT
 split
 .rename_i hr
  obtain ⟨n1,n2⟩:=S0 (O6 hr)
  exact Qz4 hr (SZ hs (by omega) (by omega))
 .exact ⟨FX,Nat.zero_le _⟩
theorem Qn0 {d:Nat} {r:Rg} {id:Int} (h:w8 r.1) (hz:r.1.1.size<=1048576):g17 (d+31) r id=some (fT r id):=by
 rw [show d+31=d+28+3 by omega,e17,show d+28+1=d+1+28 by omega,ZV h,Q8]
 unfold fT
 cases hg:j7 r with
 | false=>rfl
 | true =>
  obtain ⟨n1,n2⟩:=S0 (O6 hg)
  have hN:=SZ (id:=id) (c:=eR r.1) hz (by omega) (by omega)
  rw [Zl,Q5,show d+1+28=d+3+26 by omega,Qte (O6 hg),Q8,show d+28=d+18+10 by omega,Qjq (by omega) (by omega),Q8,if_pos rfl,show d+3+26=d+29 by omega]
  exact Qwa h hg (by have:=hN.2.1;omega) (by have:=hN.2.2;omega)
theorem Qjr {d:Nat} {r:Rg} {id:Int} (h:w8 r.1) (hz:r.1.1.size<=1048576):g16 (d+14) r id=some (fT r id):=by
 rw [e16,Qtb h,Q8]
 unfold fT
 cases hg:j7 r with
 | false=>rfl
 | true =>
  have O:=OZ hg
  have iI:=O.lk.fL
  have FY:=O.lr.f16
  obtain ⟨n1,n2⟩:=S0 (O6 hg)
  have hs:(eR r.1).1.size < 4000000:=h.1
  have hN:=SZ (id:=id) (c:=eR r.1) hz (by omega) (by omega)
  rw [Zl,Q5,show d+13=d+11+2 by omega,Qlx (by omega) (by omega),Q8,show d+11+2=d+6+7 by omega,Qgr hs (by omega) (by omega),Q8,if_pos rfl,show d+6+7=d+13 by omega]
  exact Qwb hg (by have:=hN.1;omega) (by have:=hN.2.2;omega)
abbrev tyC:Ty:=.pair (.int .i64) (.pair (.int .i64) (.pair (.int .i64) (.pair (.int .i64) (.pair (.int .i64) (.pair (.int .i64) (.pair (.int .i64) (.int .i64)))))))
abbrev tyF:Ty:=.pair (.int .i64) (.pair (.int .i64) (.pair (.int .i64) (.pair (.int .i64) (.int .i64))))
abbrev Lg:Ty:=.pair .str (.pair (.sl tyC) (.pair (.sl (.int .i64)) (.pair (.sl (.int .i64)) (.pair (.sl (.int .i64)) (.pair (.sl (.int .i64)) (.pair (.sl tyF) (.pair (.sl (.int .i64)) (.int .i64))))))))
abbrev tyT:Ty:=.pair (.sl (.int .i64)) (.sl (.int .i64))
theorem Qz5 {x:Ld} (h:Wf Lg x):S3 x:=by
 obtain ⟨h1,⟨h2,_⟩,⟨h3,_⟩,⟨h4,_⟩,⟨h5,_⟩,⟨h6,_⟩,⟨h7,_⟩,⟨h8,_⟩,_⟩:=h
 exact ⟨h1,h2,h3,h4,h5,h6,h7,h8⟩
def tkW (t:Tk):Prop:=t.1.length<=9223372036854775807/\t.2.length<=9223372036854775807
theorem Qz6 {t:Tk} (h:Wf tyT t):tkW t:=by
 obtain ⟨⟨h2,_⟩,⟨h3,_⟩⟩:=h
 exact ⟨h2,h3⟩
abbrev S4:Ty:=.pair (.int .i64) (.pair (.int .i64) (.pair (.int .i64) (.pair (.int .i64) (.pair (.int .i64) (.int .i64)))))
abbrev Lh:Ty:=.pair Lg (.pair tyT (.pair (.sl (.sl S4)) (.pair (.int .i64) (.int .i64))))
theorem Qz7 {r:Rg} (h:Wf Lh r):S5 r:=by
 obtain ⟨h1,h2,⟨h3,h4⟩,_⟩:=h
 exact ⟨Qz5 h1,Qz6 h2,h3,fun q hq=>(h4 q hq).1⟩
theorem Qsi {d:Nat} {r:Rg} {ii:Int} (hw:S5 r):g4 (d+32) r ii=some true:=by
 rw [show d+32=(d+29)+3 by omega,e4]
 obtain ⟨z,hz,hB⟩:=Qx2 (d:=d+28) hw
 rw [show d+29+2=d+28+3 by omega,hz,Q8]
 by_cases h:z < 0
 .rw [Z5 h,Q4]
 obtain ⟨y0,y1,hl,cJ⟩:=hB.resolve_left h
 rw [Z4 h,Q5]
 obtain ⟨l1,l2,l3,l4⟩:=id hl
 obtain ⟨z1,z2,z3,z4,z5,z6,z7,z8⟩:=id l1
 have hV:w_ (fT r ii).1:=(Quo z1).1
 obtain ⟨hV1,hV2⟩:=hV.l
 have hen:=hV.en
 obtain ⟨v1,v2,v3,v4⟩:=id hV1
 obtain ⟨u1,u2,u3,u4,u5,u6,u7,u8⟩:=id v1
 have hT:g8 (d+28+3) r=some r:=by rw [show d+28+3=d+27+4 by omega];exact Qx3 hl
 have hE:g10 (d+28+3) r r=some true:=by rw [show d+28+3=d+27+4 by omega];exact Qpu hl
 have hA:g17 (d+28+3) r ii=some (fT r ii):=by rw [show d+28+3=d+0+31 by omega];exact Qn0 l1.sz z1
 have hS:g16 (d+28+3) r ii=some (fT r ii):=by rw [show d+28+3=d+17+14 by omega];exact Qjr l1.sz z1
 have hQ:g10 (d+28+3) (fT r ii).1 (fT r ii).1=some true:=by rw [show d+28+3=d+27+4 by omega];exact Qpu hV1
 have hH:g14 (d+28+3) (Li (fT r ii).1) ((1:Nat):Int)=some ((xd (fT r ii).1:Nat):Int):=Qq4 hV
 have hI:(fT r ii).2.1.length<=1048576:=(Quo z1).2
 have hJ:g11 (d+28+3) (fT r ii).2.1 (fT r ii).2.1=some true:=by rw [show d+28+3=d+30+1 by omega];exact DY (by omega)
 have hM:g13 (d+28+3) (fT r ii).2.1 ((xd (fT r ii).1:Nat):Int)=some (((xd (fT r ii).1+(fT r ii).2.1.length:Nat):Int),j8 (xd (fT r ii).1) (fT r ii).2.1.length):=by rw [show d+28+3=d+30+1 by omega];exact pz hI (by omega)
 have hG:g15 (d+28+3) (j8 (xd (fT r ii).1) (fT r ii).2.1.length) ((xd (fT r ii).1:Nat):Int)=some ((xd (fT r ii).1+(fT r ii).2.1.length:Nat):Int):=by rw [show d+28+3=d+30+1 by omega];exact DZ hI (by omega)
 rw [hT,Q8,hS,Q8,Q8,hA,Q8,hQ,Q8,Zl,Q5,hJ,Q8,Zl,Q5,beq_self_eq_true,Zl]
 unfold B9
 rw [Q5,show d+29+2=d+28+3 by omega,hT,Q8,hE,Q8,Zl,Q5]
 rw [show d+29=d+28+1 by omega,show (1:Int)=((1:Nat):Int) from rfl,Qa2 z2 (by omega),Q8];simp only [];rw [pz z3 (by omega),Q8];simp only [];rw [pz z4 (by omega),Q8];simp only [];rw [pz z5 (by omega),Q8];simp only [];rw [pz z6 (by omega),Q8];simp only [];rw [Q8c z7 (by omega),Q8];simp only [];rw [pz z8 (by omega),Q8];simp only [];rw [pz l2 (by omega),Q8];simp only [];rw [pz l3 (by omega),Q8];simp only []
 have hL:=O3 (k:=1) l1
 unfold B_ at hL
 refine (Qdf (fun ag n i rs=>rfl) l4 cJ (by omega)).trans ?_
 unfold jm
 rw [Z4 (by omega),Q5,show d+28+1+2=d+28+3 by omega,hQ,Q8,Zl,Q5,hJ,Q8,Zl,Q5,beq_self_eq_true,Zl]
 unfold xq
 rw [Q5]
 rw [show d+29=d+28+1 by omega,show (1:Int)=((1:Nat):Int) from rfl,Qa2 u2 (by omega),Q8];simp only [];rw [pz u3 (by omega),Q8];simp only [];rw [pz u4 (by omega),Q8];simp only [];rw [pz u5 (by omega),Q8];simp only [];rw [pz u6 (by omega),Q8];simp only [];rw [Q8c u7 (by omega),Q8];simp only [];rw [pz u8 (by omega),Q8];simp only [];rw [pz v2 (by omega),Q8];simp only [];rw [pz v3 (by omega),Q8];simp only []
 have hL2:=O3 (k:=1) v1
 unfold B_ at hL2
 refine (Qdf (fun ag n i rs=>rfl) v4 (by omega) (by omega)).trans ?_
 unfold jn
 rw [show d+28+1+2=d+28+3 by omega,show (1:Int)=((1:Nat):Int) from rfl]
 show Q1 (g13 (d+28+3) (fT r ii).2.1 ((xd (fT r ii).1:Nat):Int)) _=_
 rw [hM,Q8]
 simp only []
 show Q1 (g14 (d+28+3) (Li (fT r ii).1) ((1:Nat):Int)) _=_
 rw [hH,Q8,Z4 (by omega),Q5,hG,Q8,Z4 (by omega),Q5]
 rw [bne_self_eq_false,Q5,hT,Q8,hA,Q8,hQ,Q8,Zl,Q5,hJ,Q8,Zl,Q5,beq_self_eq_true,Zl]
 unfold Ca
 rw [Q5]
 show Q1 (g14 (d+28+3) (Li (fT r ii).1) ((1:Nat):Int)) _=_
 rw [hH,Q8,Z4 (by omega),Q5,hG,Q8,Z4 (by omega),Q5]
 rw [bne_self_eq_false,Q5]
def tysLaw:List Ty:=[Lh,.int .i64]
theorem lawAny:Qw1 Tryz.prog Qb (32) 4 tysLaw :=
 ⟨rfl,rfl,rfl,fun a h=>by
  obtain ⟨r,ii⟩:=a
  exact ⟨true,Qsi (d:=0) (Qz7 (h ⟨_,r⟩ (List.Mem.head _))),rfl⟩⟩
end Go.Proofs.YtcoimfbmgjhcjabGreatDoor
