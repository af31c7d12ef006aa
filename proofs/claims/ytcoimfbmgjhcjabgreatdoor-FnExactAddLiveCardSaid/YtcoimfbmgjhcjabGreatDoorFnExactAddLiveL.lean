/-
  Configurations by value. And what stood behind it in 4 texts.
  Conditions: said at the theorems.
-/
import Derived.Test.YtcoimfbmgjhcjabGreatDoorK22
import Derived.Test.YtcoimfbmgjhcjabGreatDoorRepW
set_option linter.all false
namespace Go.Proofs.YtcoimfbmgjhcjabGreatDoor
open Go.Ev Go.Pv
theorem Qsa {c:Cf} (G:Gd c):((bU c).2.1.map (·.1)).Nodup:=by
 have T:=G.tr
 show (((aG c.2.1).map (aV c.2.1)).map (·.1)).Nodup
 rw [List.map_map,List.nodup_iff_pairwise_ne,List.pairwise_map]
 exact (List.nodup_iff_pairwise_ne.1 (rP T)).imp_of_mem fun ha hb aU e=>aU (T.inj _ _ ((jK T).1 ha) ((jK T).1 hb) e)
theorem ZK {l:List aA} (h:(l.map (·.1)).Nodup):l.Nodup:=by
 rw [List.nodup_iff_pairwise_ne,List.pairwise_map] at h
 exact List.nodup_iff_pairwise_ne.2 (h.imp fun h e=>h (by rw [e]))
theorem OL {c:Cf} (h:eS c=true):rQ c.2.1=true:=by
 have hc:=(oG h).cl
 unfold kD at hc
 simp only [Z8] at hc
 exact hc.2.1
theorem Sa {c:Cf} (h:eS c=true):(bU c).2.1.Perm c.2.1:=by
 have G:=oG h
 refine (List.perm_ext_iff_of_nodup (ZK (Qsa G)) (ZK (Sb (OL h)))).2 fun a=>?_
 show a∈(aG c.2.1).map (aV c.2.1)↔_
 rw [List.mem_map]
 constructor
 .rintro ⟨i,hi,rfl⟩
  exact Zc (fu ((jK G.tr).1 hi))
 .intro ha
  obtain ⟨k,hk⟩:=List.getElem?_of_mem ha
  exact ⟨(k:Int),(jK G.tr).2 (DQ hk),jL hk⟩
theorem Sc {c:Cf} (h:eS c=true):eL (bU c)=c:=by
 have G:=oG h
 have h1:DR (bU c).2.1=c.2.1:=by
  refine (List.Perm.eq_of_pairwise (le:=fun a b=>bO a<=bO b) (fun a b ha hb h1 h2=>?_) ?_ ZL ((Sa h).symm.trans Bi.symm)).symm
  .unfold bO at h1 h2
   exact Sd (Sb (OL h)) ha ((Sa h).mem_iff.1 (Bi.mem_iff.1 hb)) (by omega)
  .rw [List.pairwise_iff_getElem]
   intro i j hi hj lg
   have:=I9 (OL h) j i _ _ lg (Z6 hi) (Z6 hj)
   unfold bO;omega
 have h2:Ca (bU c)=c.2.2.2:=by
  show (if 0<=vX c/\vX c < (((bU c).2.1.length:Nat):Int) then (aV (bU c).2.1 (vX c)).1 else 0)=_
  unfold vX
  by_cases h0:c.2.2.2=0
  .rw [if_pos h0,if_neg (by omega),h0]
  .rw [if_neg h0]
   obtain ⟨t1,_⟩:=G.K4 h0
   obtain ⟨k,k1,k2⟩:=Cb G.tr t1
   have k3:(bU c).2.1[k]? = some (aV c.2.1 (bP c.2.1 c.2.2.2)):=by
    show ((aG c.2.1).map (aV c.2.1))[k]? = _
    rw [List.getElem?_map,k1];rfl
   have k4:=(Z0 k3).1
   rw [k2,if_pos ⟨by omega,by omega⟩,jL k3]
   obtain ⟨_,x,e1,e2,e3⟩:=w6 t1.1
   rw [e1,jL e2,e3]
 show (c.1,DR (bU c).2.1,c.2.2.1,Ca (bU c))=c
 rw [h1,h2]
theorem OM {c:Cf} (h:eS c=true):eT (bU c)=true:=by
 have G:=oG h
 unfold eT DS
 rw [Sc h,h]
 have h1:=(Sa h).length_eq
 have h2:=G.tr.ef
 have h3:=G.f16
 have h4:(bU c).2.2.2.2.2.2.1.length<=16:=h3
 simp only [decide_true,beq_self_eq_true,Bool.and_true,Zg,Zj]
 exact ⟨by omega,h4⟩
theorem Se {x:Ld} (h:eT x=true) {i j:Int} (hi:vI x.2.1 i) (hj:vI x.2.1 j) (e:(aV x.2.1 i).1=(aV x.2.1 j).1):i=j:=by
 have hd:=K5 (ON h) Bi
 obtain ⟨i1,i2⟩:=Z0 (fu hi)
 obtain ⟨j1,j2⟩:=Z0 (fu hj)
 have:=(List.getElem_inj (h₀:=show i.toNat < (x.2.1.map (·.1)).length by simpa using i1) (h₁:=show j.toNat < (x.2.1.map (·.1)).length by simpa using j1) hd).1 (by simp [i2,j2,e])
 have h0:=hi.1
 have h1:=hj.1
 omega
theorem Sf {x:Ld} (h:eT x=true) {i:Int} (hi:vI x.2.1 i):1<=(aV x.2.1 i).1:=by
 have hm:aV x.2.1 i∈(eL x).2.1:=Bi.mem_iff.2 (Zc (fu hi))
 obtain ⟨k,hk⟩:=List.getElem?_of_mem hm
 have:=(oG (ON h)).tr.pos _ (DQ hk)
 rw [jL hk] at this;exact this
theorem OO {α:Type} {p:α->Bool}:∀ (l:List α) (i:Nat),(∀ x∈l,p x=false)->fy p l i=-1
 | [],i,_=>rfl
 | x::r,i,h=>by
  unfold fy
  rw [if_neg (by rw [h x (by simp)];simp)]
  exact OO r (i+1) fun y hy=>h y (by simp [hy])
def I_ (n t:Int):Int:=if 0<=n then n else t
theorem ZM {p:Int->Bool}:∀ (l:List Int) (i:Nat) (t:Int),l.Pairwise (fun a b=>¬ (p a=true/\p b=true))->cF (fun w k (t:Int)=>if p w=true then ((k:Nat):Int) else t) l i t=I_ (fy p l i) t
 | [],i,t,_=>by simp [cF,fy,I_]
 | x::r,i,t,h=>by
  obtain ⟨h1,h2⟩:=List.pairwise_cons.1 h
  simp only [cF]
  rw [ZM r (i+1) _ h2]
  by_cases hx:p x=true
  .have hn:fy p r (i+1)=-1:=OO r _ fun y hy=>by
    have:=h1 y hy
    simpa [hx] using this
   have he:fy p (x::r) i=(i:Int):=if_pos hx
   rw [hn,if_pos hx,he]
   unfold I_
   rw [if_neg (by omega),if_pos (by omega)]
  .have he:fy p (x::r) i=fy p r (i+1):=if_neg hx
   rw [if_neg hx,he]
theorem Sg {α τ β:Type} {p:α->Bool} {J:Int->Option β}:∀ (l:List α) (i:Nat) (t:τ),eg (fun x i t k=>aa (p x) (J ((i:Nat):Int)) (k t)) (fun _=>J (-1)) l i t=J (fy p l i)
 | [],i,t=>rfl
 | x::r,i,t=>by
  simp only [eg,fy]
  by_cases h:p x=true
  .rw [if_pos h,h,Q4]
  .rw [if_neg h,show p x=false by simpa using h,Q5];exact Sg r (i+1) t
theorem OP {α τ σ β:Type} (mk:τ->Int->σ) {F:(σ->Option β)->σ->Option β} {fin:τ->Option β} {f:τ->α->τ} (I:τ->Nat->Prop) (l:List α) (hl:l.length < 4000000)
  (hs:∀ ag t (i:Nat) x n,l[i]? = some x->I t (n+1)->F ag (mk t ((i:Nat):Int))=ag (mk (f t x) ((i+1:Nat):Int)))
  (hi:∀ x∈l,∀ t n,I t (n+1)->I (f t x) n) (he:∀ ag t,F ag (mk t ((l.length:Nat):Int))=fin t) (m:Nat) (t:τ) (h:I t (l.length+m)):Q8 F Qc (mk t 0)=fin (l.foldl f t):=by
 have key:∀ (r p:List α) (fuel:Nat) (t:τ),l=p++r->r.length < fuel->I t (r.length+m)->Q8 F fuel (mk t ((p.length:Nat):Int))=fin (r.foldl f t):=by
  intro r
  induction r with
  | nil =>
   intro p fuel t e h _
   obtain ⟨n,rfl⟩:∃ n,fuel=n+1:=⟨fuel - 1,by omega⟩
   rw [List.append_nil] at e
   subst e
   exact he _ _
  | cons x r ih =>
   intro p fuel t e h hI
   obtain ⟨n,rfl⟩:∃ n,fuel=n+1:=⟨fuel - 1,by omega⟩
   simp only [Z9] at h
   rw [show (x::r).length+m=r.length+m+1 by simp;omega] at hI
   have:=ih (p++[x]) n (f t x) (by rw [e];simp) (by omega) (hi x (by rw [e];simp) t _ hI)
   rw [Zf] at this
   simp only [Q8,List.foldl_cons]
   rw [hs _ t p.length x _ (by rw [e];simp) hI]
   exact this
 exact key l [] Qc t rfl (by rw [Q6];omega) h
theorem ZN {α τ:Type} {f:τ->α->τ} (I:τ->Nat->Prop):∀ (l:List α) (t:τ) (m:Nat),I t (l.length+m)->(∀ x∈l,∀ t n,I t (n+1)->I (f t x) n)->I (l.foldl f t) m
 | [],t,m,h,_=>by simpa using h
 | x::r,t,m,h,hi=>by
  rw [show (x::r).length+m=r.length+m+1 by simp;omega] at h
  exact ZN I r (f t x) m (hi x (by simp) t _ h) (fun y hy=>hi y (by simp [hy]))
theorem FK {α:Type} {l:List α} {i:Nat} {v:α} (h:l[i]? = some v):l.set i v=l:=by
 obtain ⟨h1,h2⟩:=Z0 h
 rw [<- h2,List.set_getElem_self]
theorem ZO {β:Type} {F:((Int×List Int×List Int)->Option β)->(Int×List Int×List Int)->Option β} {KX:List Int->List Int->Option β} {C:List aA} {bu cb f g:aA->Int} (hC:C.length<=1000)
  (hF:∀ ag (i:Nat) c l m,C[i]? = some c->l[i]? = some (bu c)->m[i]? = some (cb c)->F ag ((i:Int),l,m)=ag (((i+1:Nat):Int),l.set i (f c),m.set i (g c)))
  (hE:∀ ag l m,F ag (((C.length:Nat):Int),l,m)=KX l m):Q8 F Qc (0,C.map bu,C.map cb)=KX (C.map f) (C.map g):=by
 have key:∀ (r p:List aA) (fuel:Nat),C=p++r->r.length < fuel->Q8 F fuel (((p.length:Nat):Int),p.map f++r.map bu,p.map g++r.map cb)=KX (C.map f) (C.map g):=by
  intro r
  induction r with
  | nil =>
   intro p fuel e h
   obtain ⟨n,rfl⟩:∃ n,fuel=n+1:=⟨fuel - 1,by omega⟩
   rw [List.append_nil] at e
   subst e
   simp only [Q8,List.map_nil,List.append_nil]
   exact hE _ _ _
  | cons c r ih =>
   intro p fuel e h
   obtain ⟨n,rfl⟩:∃ n,fuel=n+1:=⟨fuel - 1,by omega⟩
   simp only [Z9] at h
   simp only [Q8,List.map_cons]
   rw [hF _ p.length c _ _ (by rw [e];simp) (by simp) (by simp)]
   have:=ih (p++[c]) n (by rw [e];simp) (by omega)
   rw [Zf,List.map_append,List.map_append,List.append_assoc,List.append_assoc] at this
   simp only [Z9,Zb,List.map_cons,List.map_nil,List.singleton_append] at this
   have e1:=FL (p:=p.map f) (r:=r.map bu) (x:=bu c) (y:=f c)
   have e2:=FL (p:=p.map g) (r:=r.map cb) (x:=cb c) (y:=g c)
   rw [List.length_map] at e1 e2
   rw [e1,e2]
   exact this
 exact key C [] Qc rfl (by rw [Q6];omega)
def Sh (b n:Int):Int:=if b < n then b else n
theorem Si {b n:Int}:min n b=Sh b n:=by unfold Sh;rw [Int.min_def];split<;>split<;>omega
def DT (old:List aA) (ts:List Int) (k:aA) (b:Int):Int:=if 0<=bP old k.1 then Sh b (ts.getD (bP old k.1).toNat 0) else b
def Bj (r:Rg) (x:Ld):Tk:=(x.2.1.map fun k=>DT r.1.2.1 r.2.1.1 k k.2.2.2.2.1,x.2.1.map fun k=>DT r.1.2.1 r.2.1.2 k k.2.2.2.2.2.1)
abbrev Ls:=List Int×List (List Pk)
def oH (x:Ld) (t:Ls) (p:Pk):Ls:=DU x t.2 p (t.1++[p.1],t.2) (fun _=>(t.1++[p.1],t.2)) (fun _=>(t.1,Ja x t.2 p))
def Bk (r:Rg) (x:Ld):Ls:=r.2.2.1.foldl (fun t q=>q.foldl (oH x) t) ([],List.replicate (bV x.2.2.2.1).length [])
def vY (r:Rg):Int:=if r.2.2.2.1 < 0 then 0 else (aV r.1.2.1 ((bV r.1.2.2.2.1).getD r.2.2.2.1.toNat 0)).1
def Cc (r:Rg) (x:Ld):Int:=fy (fun w=>(aV x.2.1 w).1==vY r) (bV x.2.2.2.1) 0
def FM (r:Rg) (x:Ld):Rg×List Int:=((x,Bj r x,(Bk r x).2,Cc r x,r.2.2.2.2),(Bk r x).1)
def K6 (x:Ld) (t:Ls) (n:Nat):Prop:=Pu x t.2/\t.1.length+n<=100000
def gY (x:Ld) (t:Ls) (n:Nat):Prop:=Pu x t.2/\t.1.length+60*n<=100000
theorem Sj {x:Ld} {rows:List (List Pk)} {p:Pk} (P:Pu x rows) (h:¬ cE x p < 0) (hn:¬ (((rR x rows p).length:Nat):Int)=mX x (cE x p)):Pu x (Ja x rows p):=by
 have a:=Sk P h
 have hl:=a.ai
 refine ⟨P.lk,P.lr,P.lf,by unfold Ja;rw [List.length_set];exact P.rl,fun k w hw=>?_⟩
 have:=P.lm k w hw
 unfold Ja
 rw [Zr,List.getElem?_set]
 split
 .rename_i e
  rw [<- e,a.get] at hw
  injection hw with hw
  rw [if_pos a.lt]
  simp only [Option.getD_some,Zf,Z9,Zb]
  rw [<- hw];omega
 .rw [<- Zr];exact this
theorem Sl {x:Ld} {t:Ls} {p:Pk} {n:Nat} (h:K6 x t (n+1)):K6 x (oH x t p) n:=by
 obtain ⟨P,hn⟩:=h
 unfold oH DU
 split
 .exact ⟨P,by simp;omega⟩
 .split
  .exact ⟨P,by simp;omega⟩
  .rename_i h1 h2
   exact ⟨Sj P h1 h2,by simp only;omega⟩
theorem Sm {x:Ld} {t:Ls} {q:List Pk} {n:Nat} (hq:q.length<=60) (h:gY x t (n+1)):gY x (q.foldl (oH x) t) n:=by
 have:=ZN (f:=oH x) (K6 x) q t (60*n) ⟨h.1,by have:=h.2;omega⟩ (fun p _ t n h=>Sl h)
 exact ⟨this.1,this.2⟩
theorem Qys {x:Ld} (h:eT x=true):Pu x (List.replicate (bV x.2.2.2.1).length []):=by
 have L:=vZ h
 have R:=Jb h
 refine ⟨L,R,fun p=>Sn h p,by rw [List.length_replicate],fun k w hw=>?_⟩
 have hk:=(Z0 hw).1
 rw [Zr,List.getElem?_replicate,if_pos hk]
 have hm:=Zc hw
 obtain ⟨v1,v2⟩:=FN hm
 have hf:=L.fl
 exact R.l0 _ (Zc (fu ⟨v1,by omega⟩))
theorem So {x:Ld} (h:eT x=true) {n:Nat} (hn:n<=1000):gY x ([],List.replicate (bV x.2.2.2.1).length []) n:=⟨Qys h,by simp;omega⟩
theorem Sp {d:Nat} {r:Rg} {x:Ld} {KX:List Int->List Int->Option (Rg×List Int)} (O:Ro r) (hx:x.2.1.length<=1000):Q8 (lp d r x KX) Qc (0,(Cd x).1,(Cd x).2)=KX (Bj r x).1 (Bj r x).2:=by
 have iz:=O.lk.ef
 refine ZO (C:=x.2.1) (bu:=fun k=>k.2.2.2.2.1) (cb:=fun k=>k.2.2.2.2.2.1) (f:=fun k=>DT r.1.2.1 r.2.1.1 k k.2.2.2.2.1) (g:=fun k=>DT r.1.2.1 r.2.1.2 k k.2.2.2.2.2.1) hx ?_ ?_
 .intro ag i c l m hc hl hm
  have hi:=(Z0 hc).1
  have iw:=(Z0 hl).1
  have OQ:=(Z0 hm).1
  simp only [lp,bX hc,nn,Q3,hc,Q9,Q4,tG hc]
  refine (Qd (fun (t:Int) (j:Int)=>(t,j)) r.1.2.1 (fun y j t k=>aa (y.1==c.1) (cA d r ag ((i:Nat):Int) l m c ((j:Nat):Int)) (k t)) (fun _=>cA d r ag ((i:Nat):Int) l m c (-1)) ?_ ?_ (by rw [Q6];omega) 0).trans ((Sg (J:=fun n=>cA d r ag ((i:Nat):Int) l m c n) r.1.2.1 0 0).trans ?_)
  .intro ag t i x hx;have hi:=(Z0 hx).1;simp only [fX,bX hx,nn,Q3,hx,Q9,Q4];rw [aN (by omega)]
  .intro ag t;simp only [fX,bB,Q5];rfl
  .show cA d r ag ((i:Nat):Int) l m c (bP r.1.2.1 c.1)=_
   unfold cA DT
   by_cases h:0<=bP r.1.2.1 c.1
   .have au:=Bl (l:=r.1.2.1) (id:=c.1)
    have t1:=O.t1
    have t2:=O.t2
    have e1:r.2.1.1[(bP r.1.2.1 c.1).toNat]? = some (r.2.1.1.getD (bP r.1.2.1 c.1).toNat 0):=nG (by omega)
    have e2:r.2.1.2[(bP r.1.2.1 c.1).toNat]? = some (r.2.1.2.getD (bP r.1.2.1 c.1).toNat 0):=nG (by omega)
    rw [Z5 (show bP r.1.2.1 c.1>=0 from h),Q4,e1,e2]
    simp only [nn,Q3,Q4,Q9,Qk iw,Qk OQ,hl,hm]
    rw [aN (by omega),if_pos h,if_pos h]
    rfl
   .rw [Z4 (show ¬ bP r.1.2.1 c.1>=0 from h),Q5,aN (by omega),if_neg h,if_neg h,FK hl,FK hm]
 .intro ag l m;simp only [lp,bB,Q5]
theorem Sq {d:Nat} {x:Ld} {q:List Pk} {kx:Int->List Int->List (List Pk)->Option (Rg×List Int)} {t:Ls} {n:Nat} (hq:q.length<=60) (h:gY x t (n+1)):Q8 (lq (d+3) x q kx) Qc (t.1,0,t.2)=kx ((q.length:Nat):Int) (q.foldl (oH x) t).1 (q.foldl (oH x) t).2:=by
 refine OP (fun (t:Ls) (i:Int)=>(t.1,i,t.2)) (fin:=fun t=>kx ((q.length:Nat):Int) t.1 t.2) (f:=oH x) (K6 x) q (by omega) (fun ag t i p n hp hI=>?_) (fun p _ t n h=>Sl h) (fun ag t=>?_) (60*n) t ⟨h.1,by have:=h.2;omega⟩
 .obtain ⟨P,hn⟩:=hI
  have hi:=(Z0 hp).1
  simp only [lq,bX hp,nn,Q3,hp,Q9,Q4]
  rw [show d+3+1=d+4 by omega,ZP P.lr,Q9]
  refine (Sr (d:=d+3) (x:=x) (rows:=t.2) (p:=p) (A:=cB (d+3) ag t.1 ((i:Nat):Int) p 3 0 t.2) (B:=fun y=>cB (d+3) ag t.1 ((i:Nat):Int) p 2 y.1 t.2) (C:=fun y rows=>cB (d+3) ag t.1 ((i:Nat):Int) p 1 y.1 rows) P).trans ?_
  unfold oH DU cB
  split
  .rw [show ((3:Int) != 1)=true from rfl,Q4,room (by simp;omega),Q4,aN (by omega)]
  .split
   .rw [show ((2:Int) != 1)=true from rfl,Q4,room (by simp;omega),Q4,aN (by omega)]
   .rw [show ((1:Int) != 1)=false from rfl,Q5,aN (by omega)]
 .simp only [lq,bB,Q5]
theorem Qyt {d:Nat} {r:Rg} {x:Ld} {kx:List Int->List (List Pk)->Option (Rg×List Int)} (O:Ro r) (h:eT x=true):Q8 (lu (d+3) r x kx) Qc ([],0,List.replicate (bV x.2.2.2.1).length [])=kx (Bk r x).1 (Bk r x).2:=by
 have hb:=Ss O
 refine OP (fun (t:Ls) (i:Int)=>(t.1,i,t.2)) (fin:=fun t=>kx t.1 t.2) (f:=fun t q=>q.foldl (oH x) t) (gY x) r.2.2.1 (by omega) (fun ag t i q n hq hI=>?_) (fun q hq t n h=>Sm (O.rb q hq) h) (fun ag t=>?_) 0 ([],_) (So h (by omega))
 .have hi:=(Z0 hq).1
  simp only [lu,bX hq,nn,Q3,hq,Q9,Q4]
  refine (Sq (O.rb q (Zc hq)) hI).trans ?_
  unfold w7
  rw [aN (by omega)]
 .simp only [lu,bB,Q5]
theorem ZQ {r:Rg} (O:Ro r) (h:¬ r.2.2.2.1 < 0):(bV r.1.2.2.2.1)[r.2.2.2.1.toNat]? = some ((bV r.1.2.2.2.1).getD r.2.2.2.1.toNat 0)/\vI r.1.2.1 ((bV r.1.2.2.2.1).getD r.2.2.2.1.toNat 0):=by
 have la:=O.la
 have hf:=O.lk.fl
 have hg:=nG (l:=bV r.1.2.2.2.1) (i:=r.2.2.2.1.toNat) (z:=0) (by omega)
 obtain ⟨v1,v2⟩:=FN (Zc hg)
 exact ⟨hg,v1,by omega⟩
theorem Jc {x:Ld} (L:Lk x) {w:Int} (h:w∈bV x.2.2.2.1):vI x.2.1 w:=by
 have hf:=L.fl
 obtain ⟨v1,v2⟩:=FN h
 exact ⟨v1,by omega⟩
theorem Su {r:Rg} {x:Ld} (h:eT x=true) (h0:r.2.2.2.1 < 0):Cc r x=-1:=by
 unfold Cc vY
 rw [if_pos h0]
 refine OO _ _ fun w hw=>?_
 have:=Sf h (Jc (vZ h) hw)
 rw [beq_eq_false_iff_ne];omega
theorem Qyu {d:Nat} {r:Rg} {x:Ld} {a b lost:List Int} {rows:List (List Pk)} (O:Ro r) (h:eT x=true):o8 (d+3) r x a b lost rows=some ((x,(a,b),rows,Cc r x,r.2.2.2.2),lost):=by
 have L:=vZ h
 have iz:=L.ef
 have hf:=L.fl
 have hv:=Bm (F:=x.2.2.2.1)
 have Sv:=O.lk.ef
 unfold o8
 by_cases h0:r.2.2.2.1 < 0
 .rw [Z4 (show ¬ r.2.2.2.1>=0 by omega),Q5,Su h h0]
 .obtain ⟨g1,g2⟩:=ZQ O h0
  have au:=(Z0 g1).1
  rw [Z5 (show r.2.2.2.1>=0 by omega),Q4,show d+3+2=d+4+1 by omega,K7 (by omega) O.lk.fl,Q9,Q4,Qk au,Q4,g1,Q9,Z5 g2.1,Q4,fu g2,Q9,K7 (by omega) hf,Q9]
  have hl:(aV r.1.2.1 ((bV r.1.2.2.2.1).getD r.2.2.2.1.toNat 0)).1=vY r:=by unfold vY;rw [if_neg h0]
  refine (Qd (fun (t:Int) (j:Int)=>(t,j)) (bV x.2.2.2.1) (fun w j t k=>aa ((aV x.2.1 w).1==vY r) (some (((x,(a,b),rows,((j:Nat):Int),r.2.2.2.2):Rg),lost)) (k t)) (fun _=>some (((x,(a,b),rows,(-1),r.2.2.2.2):Rg),lost)) ?_ ?_ (by rw [Q6];omega) 0).trans (Sg (J:=fun n=>some (((x,(a,b),rows,n,r.2.2.2.2):Rg),lost)) (bV x.2.2.2.1) 0 0)
  .intro ag t i w hx
   have hi:=(Z0 hx).1
   have hw:=Jc L (Zc hx)
   simp only [fY,bX hx,nn,Q3,hx,Q9,Q4,tG hx]
   rw [Z5 hw.1,Q4,Qk (by have:=hw;unfold vI at this;omega),Q4,fu hw,Q9,aN (by omega),hl]
  .intro ag t;simp only [fY,bB,Q5];rfl
theorem Qb4 {d:Nat} {r:Rg} {c:Cf} (hr:jY r=true) (hc:eS c=true):FO (d+17) r c=some (FM r (bU c)):=by
 have O:=OR hr
 have h:=OM hc
 have L:=vZ h
 have iz:=L.ef
 have hf:=L.fl
 have hv:=Bm (F:=(bU c).2.2.2.1)
 rw [show d+17=d+14+3 by omega,Sw,show d+14+2=d+2+14 by omega,ZR (oG hc),Q9,show d+2+14=d+15+1 by omega,Qho (by omega),Q9,K7 (by omega) hf,Q9]
 rw [nn,Q4,Q4,Q3,show (Nat.ble (bV (bU c).2.2.2.1).length (bV (bU c).2.2.2.1).length&&Nat.ble ((bV (bU c).2.2.2.1).length*24) Q7)=true by rw [Z8,Nat.ble_eq,Nat.ble_eq];unfold Q7;omega,Q4]
 refine (Sp O (by omega)).trans ?_
 unfold w8
 rw [Q3]
 refine (Qyt (d:=d+11) O h).trans ?_
 exact Qyu (d:=d+11) O h
theorem Qvz {d:Nat} {c:Cf} (hc:eS c=true):Sx (d+11) c=some (bU c,Cd (bU c),List.replicate (bV (bU c).2.2.2.1).length [],-1,0):=by
 have L:=vZ (OM hc)
 have iz:=L.ef
 have hf:=L.fl
 have hv:=Bm (F:=(bU c).2.2.2.1)
 rw [e98,ZS (oG hc),Q9,show d+10=d+9+1 by omega,Qt8 (by omega),Q9,show d+9+1=d+8+2 by omega,Jd (by omega) hf,Q9]
 rw [nn,Q4,Q4,Q3,show (Nat.ble (bV (bU c).2.2.2.1).length (bV (bU c).2.2.2.1).length&&Nat.ble ((bV (bU c).2.2.2.1).length*24) Q7)=true by rw [Z8,Nat.ble_eq,Nat.ble_eq];unfold Q7;omega,Q4]
theorem Sy {d:Nat} {r z:Rg} {KX:List Int->List Int->Option (Rg×List Int)} (O:Ro r) (hx:z.1.2.1.length<=1000):Q8 (rS d r z KX) Qc (0,(Cd z.1).1,(Cd z.1).2)=KX (Bj r z.1).1 (Bj r z.1).2:=by
 have iz:=O.lk.ef
 refine ZO (C:=z.1.2.1) (bu:=fun k=>k.2.2.2.2.1) (cb:=fun k=>k.2.2.2.2.2.1) (f:=fun k=>DT r.1.2.1 r.2.1.1 k k.2.2.2.2.1) (g:=fun k=>DT r.1.2.1 r.2.1.2 k k.2.2.2.2.2.1) hx ?_ ?_
 .intro ag i c l m hc hl hm
  have hi:=(Z0 hc).1
  have iw:=(Z0 hl).1
  have OQ:=(Z0 hm).1
  simp only [rS,bX hc,nn,Q3,hc,Q9,Q4,tG hc]
  rw [Qzx (by omega),Q9]
  unfold DT
  by_cases h:0<=bP r.1.2.1 c.1
  .have au:=Bl (l:=r.1.2.1) (id:=c.1)
   have t1:=O.t1
   have t2:=O.t2
   have e1:r.2.1.1[(bP r.1.2.1 c.1).toNat]? = some (r.2.1.1.getD (bP r.1.2.1 c.1).toNat 0):=nG (by omega)
   have e2:r.2.1.2[(bP r.1.2.1 c.1).toNat]? = some (r.2.1.2.getD (bP r.1.2.1 c.1).toNat 0):=nG (by omega)
   rw [Z5 (show bP r.1.2.1 c.1>=0 from h),Q4,e1,e2]
   simp only [nn,Q3,Q4,Q9,Qk iw,Qk OQ,hl,hm,Qp0,Si]
   rw [aN (by omega),if_pos h,if_pos h]
  .rw [Z4 (show ¬ bP r.1.2.1 c.1>=0 from h),Q5,aN (by omega),if_neg h,if_neg h,FK hl,FK hm]
 .intro ag l m;simp only [rS,bB,Q5]
theorem Sz {d:Nat} {x1:ByteArray} {x2:List aA} {x3 x4 x5 x6:List Int} {x7:List dJ} {x8:List Int} {x9:Int} {q:List Pk} {kx:Int->List Int->List (List Pk)->Option (Rg×List Int)} {t:Ls} {n:Nat} (hq:q.length<=60) (h:gY (x1,x2,x3,x4,x5,x6,x7,x8,x9) t (n+1)):Q8 (rT (d+4) x1 x9 x2 x3 x4 x5 x6 x7 x8 q kx) Qc (t.1,0,t.2)=kx ((q.length:Nat):Int) (q.foldl (oH (x1,x2,x3,x4,x5,x6,x7,x8,x9)) t).1 (q.foldl (oH (x1,x2,x3,x4,x5,x6,x7,x8,x9)) t).2:=by
 refine OP (fun (t:Ls) (i:Int)=>(t.1,i,t.2)) (fin:=fun t=>kx ((q.length:Nat):Int) t.1 t.2) (f:=oH (x1,x2,x3,x4,x5,x6,x7,x8,x9)) (K6 (x1,x2,x3,x4,x5,x6,x7,x8,x9)) q (by omega) (fun ag t i p n hp hI=>?_) (fun p _ t n h=>Sl h) (fun ag t=>?_) (60*n) t ⟨h.1,by have:=h.2;omega⟩
 .obtain ⟨P,hn⟩:=hI
  have hi:=(Z0 hp).1
  simp only [rT,bX hp,nn,Q3,hp,Q9,Q4]
  rw [ZT P.lr,Q9]
  refine (SA (x:=(x1,x2,x3,x4,x5,x6,x7,x8,x9)) (rows:=t.2) (p:=p) (A:=cX (d+4) ag t.1 ((i:Nat):Int) p 3 0 t.2) (B:=fun y=>cX (d+4) ag t.1 ((i:Nat):Int) p 2 y.1 t.2) (C:=fun y rows=>cX (d+4) ag t.1 ((i:Nat):Int) p 1 y.1 rows) P (fun a y=>?_)).trans ?_
  .have iz:=P.lk.ef
   refine (Qzy (d:=d+2) (K:=fun k=>gZ (d+4) ag t.1 ((i:Nat):Int) t.2 p y k) a (by omega) P.lk.fl (fun ag k=>?_)).trans ?_
   .simp only [kE]
   .unfold gZ SB;rfl
  .unfold oH DU cX
   split
   .rw [show ((3:Int) != 1)=true from rfl,Q4,room (by simp;omega),Q4,aN (by omega)]
   .split
    .rw [show ((2:Int) != 1)=true from rfl,Q4,room (by simp;omega),Q4,aN (by omega)]
    .rw [show ((1:Int) != 1)=false from rfl,Q5,aN (by omega)]
 .simp only [rT,bB,Q5]
theorem Qyv {d:Nat} {r:Rg} {x:Ld} {kx:List Int->List (List Pk)->Option (Rg×List Int)} (O:Ro r) (h:eT x=true):Q8 (rU (d+4) r x.1 x.2.2.2.2.2.2.2.2 x.2.1 x.2.2.1 x.2.2.2.1 x.2.2.2.2.1 x.2.2.2.2.2.1 x.2.2.2.2.2.2.1 x.2.2.2.2.2.2.2.1 kx) Qc ([],0,List.replicate (bV x.2.2.2.1).length [])=kx (Bk r x).1 (Bk r x).2:=by
 have hb:=Ss O
 refine OP (fun (t:Ls) (i:Int)=>(t.1,i,t.2)) (fin:=fun t=>kx t.1 t.2) (f:=fun t q=>q.foldl (oH x) t) (gY x) r.2.2.1 (by omega) (fun ag t i q n hq hI=>?_) (fun q hq t n h=>Sm (O.rb q hq) h) (fun ag t=>?_) 0 ([],_) (So h (by omega))
 .have hi:=(Z0 hq).1
  simp only [rU,bX hq,nn,Q3,hq,Q9,Q4]
  refine (Sz (O.rb q (Zc hq)) hI).trans ?_
  unfold DV
  rw [aN (by omega)]
 .simp only [rU,bB,Q5]
theorem Qsc {d:Nat} {r:Rg} (O:Ro r):FP (d+3) r=some (vY r):=by
 have Sv:=O.lk.ef
 rw [SC]
 unfold vY
 by_cases h0:r.2.2.2.1 < 0
 .rw [Z5 h0,Q4,if_pos h0]
 .obtain ⟨g1,g2⟩:=ZQ O h0
  have au:=(Z0 g1).1
  rw [Z4 h0,Q5,Jd (by omega) O.lk.fl,Q9,Z5 (show 0<=r.2.2.2.1 by omega),Q4,Qk au,Q4,g1,Q9,Z5 g2.1,Q4,fu g2,Q9,if_neg h0]
theorem Qw0 {x:Ld} (h:eT x=true) {n:Int}:(bV x.2.2.2.1).Pairwise (fun a b=>¬ (((aV x.2.1 a).1==n)=true/\((aV x.2.1 b).1==n)=true)):=by
 refine (List.nodup_iff_pairwise_ne.1 SD).imp_of_mem fun {a b} ha hb aU ⟨e1,e2⟩=>aU ?_
 exact Se h (Jc (vZ h) ha) (Jc (vZ h) hb) ((beq_iff_eq.1 e1).trans (beq_iff_eq.1 e2).symm)
theorem Qjl {d:Nat} {r:Rg} {c:Cf} (hr:jY r=true) (hc:eS c=true):SE (d+12) r c=some (FM r (bU c)):=by
 have O:=OR hr
 have h:=OM hc
 have L:=vZ h
 have iz:=L.ef
 have hf:=L.fl
 have hv:=Bm (F:=(bU c).2.2.2.1)
 rw [show d+12=d+10+2 by omega,e65,show d+10+1=d+11 by omega,Qvz hc,Q9]
 generalize bU c=x at *
 refine (Sy (z:=(x,Cd x,List.replicate (bV x.2.2.2.1).length [],-1,0)) O (by show x.2.1.length<=1000;omega)).trans ?_
 show w9 (d+10) r (x,Cd x,List.replicate (bV x.2.2.2.1).length [],-1,0) (Bj r x).1 (Bj r x).2=_
 unfold w9
 simp only []
 rw [show d+10+1=d+9+2 by omega,Jd (by omega) hf,Q9]
 refine (Qd (fun (t:Int) (i:Int)=>(i,((x,Bj r x,List.replicate (bV x.2.2.2.1).length [],t,r.2.2.2.2):Rg))) (bV x.2.2.2.1) (fun w i t k=>k (if ((aV x.2.1 w).1==vY r)=true then ((i:Nat):Int) else t)) (fun t=>w_ (d+10) r x.1 x.2.2.2.2.2.2.2.2 t r.2.2.2.2 x.2.1 x.2.2.1 x.2.2.2.1 x.2.2.2.2.1 x.2.2.2.2.2.1 x.2.2.2.2.2.2.1 x.2.2.2.2.2.2.2.1 (Bj r x).1 (Bj r x).2 (List.replicate (bV x.2.2.2.1).length [])) ?_ ?_ (by rw [Q6];omega) (-1)).trans ?_
 .intro ag t i w hx
  have hi:=(Z0 hx).1
  have hw:=Jc L (Zc hx)
  simp only [xd,bX hx,nn,Q3,hx,Q9,Q4,tG hx]
  rw [Z5 hw.1,Q4,Qk (by have:=hw;unfold vI at this;omega),Q4,fu hw,Q9,show d+10+1=d+8+3 by omega,Qsc O,Q9,aN (by omega)]
  cases ((aV x.2.1 w).1==vY r)<;>rfl
 .intro ag t;simp only [xd,bB,Q5]
 .rw [xe (f:=fun w i (t:Int)=>if ((aV x.2.1 w).1==vY r)=true then ((i:Nat):Int) else t),ZM (p:=fun w=>(aV x.2.1 w).1==vY r) _ _ _ (Qw0 h)]
  have DW:I_ (fy (fun w=>(aV x.2.1 w).1==vY r) (bV x.2.2.2.1) 0) (-1)=Cc r x:=by
   show I_ (Cc r x) (-1)=Cc r x
   unfold I_
   split
   .rfl
   .rename_i hn
    have:Cc r x < 0:=by omega
    unfold Cc at this ⊢
    exact (OO _ _ (K8.1 this)).symm
  rw [DW]
  unfold w_
  refine (Qyv (d:=d+6) O h).trans ?_
  rfl
def zR:Rg:=((⟨#[]⟩,[],[],[],[],[],[],[],0),([],[]),[],0,0)
abbrev Rr:=Rg×List Int×Bool
def Je:Rr:=(zR,[],false)
def DX (r:Rg) (c:Cf):Rr:=if eS c=true then ((FM r (bU c)).1,(FM r (bU c)).2,true) else Je
def SF (r:Rg) (c:Cf):Rr:=if jY r=true then DX r c else Je
theorem Qb5 {d:Nat} {r:Rg} {c:Cf} (h:xg r.1) (hl:c.2.1.length < 4000000) (hf:c.2.2.1.length < 4000000):OS (d+29) r c=some (SF r c):=by
 rw [e72,ZU h,Q9]
 try unfold xh
 unfold SF DX
 cases hg:jY r with
 | false=>rfl
 | true =>
  rw [Zl,Q5,show d+28=(d+20)+8 by omega,OT hl hf,Q9,if_pos rfl]
  cases hc:eS c with
  | false=>rfl
  | true=>rw [Zl,Q5,show d+20+8=d+11+17 by omega,Qb4 hg hc,Q9,if_pos rfl]
theorem Qmy {d:Nat} {r:Rg} {c:Cf} (hr:jY r=true) (hs:c.1.size < 4000000) (hf:c.2.2.1.length < 4000000):K9 (d+13) r c true=some (DX r c):=by
 rw [ZV,Zl,Q5,show d+12=d+7+5 by omega,OU hs hf,Q9]
 unfold DX
 cases hc:eS c with
 | false=>rfl
 | true=>rw [Zl,Q5,show d+7+5=d+12 by omega,Qjl hr hc,Q9,if_pos rfl]
theorem ZW {x:Ld}:∀ (l:List (List Pk)) (t:Ls) (n:Nat),(∀ q∈l,q.length<=60)->gY x t (l.length+n)->gY x (l.foldl (fun t q=>q.foldl (oH x) t) t) n
 | [],t,n,_,h=>by simpa using h
 | q::l,t,n,hq,h=>by
  rw [show (q::l).length+n=l.length+n+1 by simp;omega] at h
  exact ZW l _ n (fun z hz=>hq z (by simp [hz])) (Sm (hq q (by simp)) h)
theorem SG {r:Rg} {x:Ld} (O:Ro r) (h:eT x=true):gY x (Bk r x) 0:=ZW r.2.2.1 _ 0 O.rb (So h (by have:=Ss O;omega))
theorem FQ:xj zR:=⟨⟨by show (0:Nat)<=_;omega,Nat.zero_le _,Nat.zero_le _,Nat.zero_le _,Nat.zero_le _,Nat.zero_le _,Nat.zero_le _,Nat.zero_le _⟩,⟨Nat.zero_le _,Nat.zero_le _⟩,Nat.zero_le _,fun q hq=>by simp [zR] at hq⟩
theorem SH {r:Rg} {c:Cf} (hr:jY r=true) (hs:c.1.size<=1048576) (hc:eS c=true):xj (FM r (bU c)).1/\(FM r (bU c)).2.length<=100000:=by
 have O:=OR hr
 have h:=OM hc
 have L:=vZ h
 have iz:=L.ef
 have hp:=L.pl
 have hf:=L.fl
 have Ce:=(Jb h).f16
 obtain ⟨n1,n2,n3⟩:=Qx2 h
 have hv:=Bm (F:=(bU c).2.2.2.1)
 obtain ⟨P,hn⟩:=SG O h
 have kG:=P.rl
 refine ⟨⟨⟨hs,by show (bU c).2.1.length<=_;omega,by show (bU c).2.2.1.length<=_;omega,by show (bU c).2.2.2.1.length<=_;omega,by show (bU c).2.2.2.2.1.length<=_;omega,by show (bU c).2.2.2.2.2.1.length<=_;omega,by show (bU c).2.2.2.2.2.2.1.length<=_;omega,by show (bU c).2.2.2.2.2.2.2.1.length<=_;omega⟩,⟨?_,?_⟩,?_,fun q hq=>?_⟩,by show (Bk r (bU c)).1.length<=_;omega⟩
 .show ((bU c).2.1.map _).length<=_;rw [List.length_map];omega
 .show ((bU c).2.1.map _).length<=_;rw [List.length_map];omega
 .show (Bk r (bU c)).2.length<=_;omega
 .obtain ⟨k,hk⟩:=List.getElem?_of_mem (show q∈(Bk r (bU c)).2 from hq)
  have au:=(Z0 hk).1
  have hw:=Z6 (l:=bV (bU c).2.2.2.1) (i:=k) (by omega)
  have:=P.lm k _ hw
  rw [Zr,hk] at this
  have Jf:=(Jb h).ai _ (Zc (fu (Jc L (Zc hw))))
  unfold mX at this
  simp only [Option.getD_some] at this
  omega
theorem SI {r:Rg} {c:Cf} (hr:jY r=true) (hs:c.1.size<=1048576):xj (DX r c).1/\(DX r c).2.1.length<=1048576:=by
 unfold DX
 split
 .rename_i hc;obtain ⟨h1,h2⟩:=SH hr hs hc;exact ⟨h1,by show (FM r (bU c)).2.length<=_;omega⟩
 .exact ⟨FQ,Nat.zero_le _⟩
theorem xj.en {r:Rg} (h:xj r):xk r<=40000000:=by
 have hf:=h.l.2
 obtain ⟨h1,⟨h2,h3⟩,_,_⟩:=h
 have:=OV (k:=1) h1
 unfold xk Jg;omega
theorem Qw1 {d:Nat} {r:Rg} {c:Cf}:K9 (d+1) r c false=some Je:=by
 rw [ZV,Bool.not_false,Q4];rfl
def oI (c:Cf):Cf×Bool:=if eS c=true then (c,true) else (zC,false)
theorem Qmz {d:Nat} {c:Cf} (hl:c.2.1.length < 4000000) (hf:c.2.2.1.length < 4000000):SJ (d+9) c=some (oI c):=by
 rw [e77,OT hl hf,Q9]
 unfold oI
 cases hg:eS c with
 | false=>rfl
 | true=>rw [if_pos rfl,Zl,Q5]
theorem Qyx {d:Nat} {c:Cf} (hs:c.1.size < 4000000) (hf:c.2.2.1.length < 4000000):K_ (d+6) c=some (oI c):=by
 rw [e63,OU hs hf,Q9]
 unfold oI
 cases hg:eS c with
 | false=>rfl
 | true=>rw [if_pos rfl,Zl,Q5]
theorem Qer {d:Nat} {c:Cf} (hl:c.2.1.length<=1000) (hf:c.2.2.1.length<=1000):SK (d+2) c=some c:=by
 rw [e76,ZX hl,Q9,SL (by omega),Q9]
theorem Qw2 {d:Nat} {c:Cf} (hl:c.2.1.length<=1000) (hf:c.2.2.1.length<=1000):SM (d+1) c=some c:=by
 rw [e61,room (by simp;omega),Q4,room (by simp;omega),Q4,List.nil_append,List.nil_append]
def DY (r:Rg) (z:Cf×Bool):Rr:=if z.2=true then DX r z.1 else Je
theorem Qw3 {d:Nat} {r:Rg} {z:Cf×Bool} (h:xg r.1) (hr:jY r=true) (hl:z.1.2.1.length < 4000000) (hf:z.1.2.2.1.length < 4000000):aa (!z.2) (some Je) (Q1 (OS (d+29) r z.1) fun w=>some (w.1,w.2.1,w.2.2))=some (DY r z):=by
 unfold DY
 cases hz:z.2 with
 | false=>rfl
 | true =>
  rw [Zl,Q5,Qb5 h hl hf,Q9,if_pos rfl]
  unfold SF
  rw [if_pos hr]
theorem Qw4 {d:Nat} {r:Rg} {z:Cf×Bool} (hr:jY r=true) (hs:z.1.1.size < 4000000) (hf:z.1.2.2.1.length < 4000000):Q1 (K9 (d+13) r z.1 z.2) (fun w=>some (w.1,w.2.1,w.2.2))=some (DY r z):=by
 unfold DY
 cases hz:z.2 with
 | false=>rw [show d+13=d+12+1 by omega,Qw1,Q9];rfl
 | true=>rw [Qmy hr hs hf,Q9,if_pos rfl]
theorem Qw5 {c:Cf} (hs:c.1.size<=1048576) (hl:c.2.1.length<=1000) (hf:c.2.2.1.length<=1000):(oI c).1.1.size<=1048576/\(oI c).1.2.1.length<=1000/\(oI c).1.2.2.1.length<=1000:=by
 unfold oI
 split
 .exact ⟨hs,hl,hf⟩
 .exact ⟨by show (0:Nat)<=_;omega,Nat.zero_le _,Nat.zero_le _⟩
def SN (z:Cf×Bool):Prop:=z.1.1.size<=1048576/\z.1.2.1.length<=1000/\z.1.2.2.1.length<=1000
theorem Qyy {r:Rg} {z:Cf×Bool} (hr:jY r=true) (h:SN z):xj (DY r z).1/\(DY r z).2.1.length<=1048576:=by
 unfold DY
 split
 .exact SI hr h.1
 .exact ⟨FQ,Nat.zero_le _⟩
theorem SO:SN (zC,false):=⟨by show (0:Nat)<=_;omega,Nat.zero_le _,Nat.zero_le _⟩
def DZ (l:List aA) (i n:Int):List aA:=l.set i.toNat ((aV l i).1,(aV l i).2.1,(aV l i).2.2.1,(aV l i).2.2.2.1,(aV l i).2.2.2.2.1,(aV l i).2.2.2.2.2.1,(aV l i).2.2.2.2.2.2.1,n)
def La (l:List dJ):Prop:=∀ (k:Nat) x y,l[k]? = some x->l[k+1]? = some y->x.1 < y.1
theorem Qz0 {d:Nat} {l:List dJ} (hl:l.length<=16) (hs:La l):Cg (d+3) l 0 ((l.length:Nat):Int) false=some l:=by
 rw [show d+3=d+1+2 by omega,SP,wr (by omega) (by omega)]
 have key:∀ (m k fuel:Nat),l.length<=k+m->m < fuel->1<=k->k<=17->Q8 (jd (d+1) 0 ((l.length:Nat):Int) (xl (d+1))) fuel (((k:Nat):Int),l)=some l:=by
  intro m
  induction m with
  | zero =>
   intro k fuel h h2 _ _
   obtain ⟨g,rfl⟩:∃ g,fuel=g+1:=⟨fuel - 1,by omega⟩
   simp only [Q8,jd]
   rw [Z4 (by omega),Q5];rfl
  | succ m ih =>
   intro k fuel h h2 h1 h17
   obtain ⟨g,rfl⟩:∃ g,fuel=g+1:=⟨fuel - 1,by omega⟩
   by_cases hk:k < l.length
   .have hx:=Z6 hk
    have hy:=Z6 (l:=l) (i:=k - 1) (by omega)
    have au:=hs (k - 1) _ _ hy (by rw [show k - 1+1=k by omega];exact hx)
    obtain ⟨f,hf⟩:∃ f,Qc=f+1:=⟨Qc - 1,by rw [Q6]⟩
    obtain ⟨c,SQ,w4⟩:=Lb (d:=d) (a:=(l[k]).1) (b:=(l[k - 1]).1)
    simp only [Q8,jd]
    rw [Z5 (by omega),Q4,hf]
    simp only [Q8,xm]
    rw [Z5 (by omega),Q4,nn,Q4,Q3,Qk hk,Q4,hx,Q9,FR (by omega) (by omega),nn,Q4,Q3,Qk (by omega),Q4,hy,Q9,SQ,Q9,w4,Z4 (by omega)]
    unfold o9 xq
    rw [Q5,aN (by omega)]
    exact ih (k+1) g (by omega) (by omega) (by omega) (by omega)
   .simp only [Q8,jd]
    rw [Z4 (by omega),Q5];rfl
 exact key l.length 1 Qc (by omega) (by rw [Q6];omega) (by omega) (by omega)
theorem Qw6 {d:Nat} {l:List dJ} (hl:l.length<=16) (hs:La l):FT (d+5) l false=some l:=by
 obtain ⟨f,hf⟩:∃ f,Qc=f+1:=⟨Qc - 1,by rw [Q6]⟩
 rw [SS,SU,hf]
 simp only [Q8,xu]
 rw [Z4 (by omega),Q5]
 unfold xw
 rw [Qz0 hl hs,Q9,hf]
 simp only [Q8,xx]
 rw [Z4 (by omega),Q5]
 rfl
theorem Gd.inc {c:Cf} (G:Gd c):La c.2.2.1:=by
 intro k x y hx hy
 have:=G.fl
 unfold tH at this
 simp only [Z8,o_] at this
 have h1:=this.1 (k+1) y hy
 rw [Zo] at h1
 unfold Ch Ci at h1
 simp only [Z8,Bool.or_eq_true,Zj] at h1
 rcases h1.2.1 with h | h
 .omega
 .rw [show (((k+1:Nat):Int) - 1).toNat=k by omega,Zr,hx] at h
  exact h
theorem Qgt {d:Nat} {c:Cf} (hl:c.2.1.length<=1000) (hf:c.2.2.1.length<=16) (hs:La c.2.2.1):Ok (SV (d+26) c) fun z=>z.1=c.1/\cS bO c.2.1 z.2.1/\z.2.2=c.2.2:=by
 rw [e89]
 refine Ok.bind (OW (by omega)) fun S hS=>?_
 rw [show d+25=d+20+5 by omega,Qw6 hf hs,Q9]
 exact Ok.some ⟨rfl,hS,rfl⟩
theorem Qw7 {l:List aA} {i n:Int} (h:vI l i):(DZ l i n).map (·.1)=l.map (·.1):=by
 unfold DZ
 rw [List.map_set]
 exact FK (by rw [List.getElem?_map,fu h];rfl)
theorem ZY {l:List aA}:cJ bO l↔(l.map (·.1)).Pairwise (· <= ·):=by
 unfold cJ bO;rw [List.pairwise_map]
def D4 (l:List aA) (x:aA):List aA:=if 0<=bP l x.2.1 then DZ l (bP l x.2.1) 0 else l
theorem SW {l:List aA} {x:aA}:(D4 l x).length=l.length:=by
 unfold D4;split
 .unfold DZ;rw [List.length_set]
 .rfl
theorem Qw8 {c:Cf} (h:eS c=true) {x:aA}:cJ bO (D4 c.2.1 x):=by
 have h0:cJ bO c.2.1:=by
  unfold cJ
  rw [List.pairwise_iff_getElem]
  intro i j hi hj lg
  have:=I9 (OL h) j i _ _ lg (Z6 hi) (Z6 hj)
  unfold bO;omega
 unfold D4
 split
 .rename_i hp
  rw [ZY,Qw7 ⟨hp,Bl⟩,<- ZY];exact h0
 .exact h0
theorem Qz1 {c:Cf} (G:Gd c) {k:Nat} {y:aA} (hy:c.2.1[k]? = some y) (hv:gP c.2.1 y.1=false):DZ c.2.1 (k:Int) 0=c.2.1:=by
 have hc:=G.cl
 unfold kD at hc
 simp only [Z8] at hc
 obtain ⟨_,_,_,_,_,_,_,_,h9⟩:=hc
 have:=Z3 h9 y (Zc hy)
 unfold mY at this
 rw [if_neg (by rw [hv];simp)] at this
 have h0:y.2.2.2.2.2.2.2=0:=beq_iff_eq.1 this
 unfold DZ
 rw [Q3,jL hy]
 refine FK (hy.trans ?_)
 obtain ⟨a,b,c1,d,e,f,g,h⟩:=y
 simp only at h0
 rw [h0]
theorem Qw9 {S L:List aA} {x:aA} {n:ByteArray} {t:List dJ×Int} (h:cS bO (L++[x]) S) (hL:cJ bO L):oI (n,S,t)=oI (n,jM L x,t):=by
 have hp:(jM L x).Perm (L++[x]):=SX.trans (List.perm_append_singleton x L).symm
 by_cases hd:((L++[x]).map (·.1)).Nodup
 .have:S=jM L x:=by
   refine List.Perm.eq_of_pairwise (le:=fun a b=>bO a<=bO b) (fun a b ha hb h1 h2=>?_) h.tI (ZZ hL) (h.perm.trans hp.symm)
   unfold bO at h1 h2
   exact Sd hd (h.perm.mem_iff.1 ha) (hp.mem_iff.1 hb) (by omega)
  rw [this]
 .have e1:eS (n,S,t)=false:=Bool.eq_false_iff.2 fun g=>hd (K5 g h.perm)
  have e2:eS (n,jM L x,t)=false:=Bool.eq_false_iff.2 fun g=>hd (K5 g hp)
  unfold oI
  rw [e1,e2,if_neg (by simp),if_neg (by simp)]
def FU (c:Cf) (x:aA):Cf×Bool:=if eS c=true then oI (c.1,jM (D4 c.2.1 x) x,c.2.2) else (zC,false)
theorem SY {d:Nat} {c:Cf} {x:aA} {L:List aA} (hL:L.length<=500) (hs:cJ bO L) (hf:c.2.2.1.length<=16) (hi:La c.2.2.1):rV (d+26) x c L=some (oI (c.1,jM L x,c.2.2)):=by
 unfold rV
 rw [room (by simp;omega),Q4]
 obtain ⟨z,hz,h1,h2,h3⟩:=Qgt (d:=d) (c:=(c.1,L++[x],c.2.2)) (by show (L++[x]).length<=_;simp;omega) hf hi
 have OX:z.2.1.length=L.length+1:=by rw [h2.perm.length_eq];simp
 rw [hz,Q9,show d+26=d+17+9 by omega,Qmz (by omega) (by rw [h3];show c.2.2.1.length < _;omega),Q9]
 obtain ⟨z1,z2,z3⟩:=z
 simp only at h1 h2 h3
 subst h1 h3
 exact congrArg some (Qw9 h2 hs)
theorem Qwa {c:Cf} (h:24 < c.2.1.length):oI c=(zC,false):=by
 unfold oI
 rw [if_neg fun g=>?_]
 have:=(oG g).tr.ef
 omega
theorem Qn0 {d:Nat} {c:Cf} {x:aA} (hl:c.2.1.length<=500) (hf:c.2.2.1.length<=500):SZ (d+27) c x=some (FU c x):=by
 rw [e48,show d+26=d+18+8 by omega,OT (by omega) (by omega),Q9]
 unfold FU xy
 cases hg:eS c with
 | false=>rfl
 | true =>
  have G:=oG hg
  have iz:=G.tr.ef
  have Ce:=G.f16
  rw [Zl,Q5,if_pos rfl]
  by_cases h:c.2.1.length=24
  .rw [show (((c.2.1.length:Nat):Int)==24)=true by rw [beq_iff_eq];omega,Q4,Qwa (by show 24 < (jM _ _).length;rw [S0,SW];omega)];rfl
  .rw [show (((c.2.1.length:Nat):Int)==24)=false by rw [beq_eq_false_iff_ne];omega,Q5,show d+18+8=d+24+2 by omega,Qer (by omega) (by omega),Q9,show d+24+2=d+23+3 by omega,OY (by omega),Q9]
   unfold xz
   have hs:=Qw8 hg (x:=x)
   have hp:=SY (d:=d) (x:=x) (c:=c) (L:=D4 c.2.1 x) (by rw [SW];omega) hs Ce G.inc
   rw [show d+23+3=d+26 by omega,<- hp]
   unfold D4
   by_cases h0:bP c.2.1 x.2.1>=0
   .obtain ⟨k,y,h1,h2,h3⟩:=w6 (l:=c.2.1) (id:=x.2.1) h0
    have hk:=(Z0 h2).1
    rw [Z5 h0,Q4,h1,show d+26=d+22+4 by omega,OZ h2 (by omega),Q9,if_pos (by omega)]
    cases hv:gP c.2.1 y.1 with
    | false=>rw [Q5,Qz1 G h2 hv]
    | true =>
     rw [Q4,Q4,Q3,Qk hk,Q4,h2,Q9]
     unfold DZ
     rw [Q3,jL h2]
   .rw [Z4 h0,Q5,Q5,if_neg h0]
theorem Qjn {d:Nat} {c:Cf} {x:aA} (hs:c.1.size < 4000000) (hl:c.2.1.length<=500) (hf:c.2.2.1.length<=500):S3 (d+7) c x=some (FU c x):=by
 rw [e46,show d+6=d+1+5 by omega,OU hs (by omega),Q9]
 unfold FU
 cases hg:eS c with
 | false=>rfl
 | true =>
  have hI:∀ L:List aA,K_ (d+1+5) (c.1,L,c.2.2)=some (oI (c.1,L,c.2.2)):=fun L=>by rw [show d+1+5=d+6 by omega];exact Qyx (c:=(c.1,L,c.2.2)) hs (by show c.2.2.1.length < _;omega)
  rw [Zl,Q5,if_pos rfl,show d+1+5=d+5+1 by omega,Qw2 (by omega) (by omega),Q9,Jh (by omega),Q9]
  unfold D4
  by_cases h0:bP c.2.1 x.2.1>=0
  .obtain ⟨k,y,h1,h2,h3⟩:=w6 (l:=c.2.1) (id:=x.2.1) h0
   have hk:=(Z0 h2).1
   rw [Z5 h0,Q4,Q4,h1,if_pos (by omega),Q3,Qk hk,Q4,h2,Q9,S4 (by rw [List.length_set];omega),Q9,show d+5+1=d+1+5 by omega,hI,Q9]
   unfold DZ
   rw [Q3,jL h2]
  .rw [Z4 h0,Q5,if_neg h0,S4 (by omega),Q9,show d+5+1=d+1+5 by omega,hI,Q9]
theorem S5 {c:Cf} {x:aA} (hs:c.1.size<=1048576) (hl:c.2.1.length<=500) (hf:c.2.2.1.length<=500):SN (FU c x):=by
 unfold FU
 split
 .exact Qw5 hs (by show (jM _ _).length<=_;rw [S0,SW];omega) (by show c.2.2.1.length<=_;omega)
 .exact SO
def fO (r:Rg) (x:aA):Rr:=if jY r=true then DY r (FU (eL r.1) x) else Je
theorem Z_ {r:Rg} {x:aA} (hs:r.1.1.size<=1048576):xj (fO r x).1/\(fO r x).2.1.length<=1048576:=by
 unfold fO
 split
 .rename_i hr
  obtain ⟨n1,n2⟩:=S6 (O0 hr)
  exact Qyy hr (S5 hs (by omega) (by omega))
 .exact ⟨FQ,Nat.zero_le _⟩
theorem Qoy {d:Nat} {r:Rg} {x:aA} (h:xg r.1) (hz:r.1.1.size<=1048576):g20 (d+31) r x=some (fO r x):=by
 rw [show d+31=d+28+3 by omega,e20,show d+28+1=d+1+28 by omega,ZU h,Q9]
 unfold fO
 cases hg:jY r with
 | false=>rfl
 | true =>
  obtain ⟨n1,n2⟩:=S6 (O0 hg)
  have hN:=S5 (x:=x) (c:=eL r.1) hz (by omega) (by omega)
  rw [Zl,Q5,show d+1+28=d+3+26 by omega,Qt7 (O0 hg),Q9,show d+28=d+1+27 by omega,Qn0 (by omega) (by omega),Q9,if_pos rfl,show d+3+26=d+29 by omega]
  exact Qw3 h hg (by have:=hN.2.1;omega) (by have:=hN.2.2;omega)
theorem Qn1 {d:Nat} {r:Rg} {x:aA} (h:xg r.1) (hz:r.1.1.size<=1048576):g18 (d+14) r x=some (fO r x):=by
 rw [e18,Qt4 h,Q9]
 unfold fO
 cases hg:jY r with
 | false=>rfl
 | true =>
  have O:=OR hg
  have iz:=O.lk.ef
  have Ce:=O.lr.f16
  obtain ⟨n1,n2⟩:=S6 (O0 hg)
  have hs:(eL r.1).1.size < 4000000:=h.1
  have hN:=S5 (x:=x) (c:=eL r.1) hz (by omega) (by omega)
  rw [Zl,Q5,show d+13=d+11+2 by omega,Qly (by omega) (by omega),Q9,show d+11+2=d+6+7 by omega,Qjn hs (by omega) (by omega),Q9,if_pos rfl,show d+6+7=d+13 by omega]
  exact Qw4 hg (by have:=hN.1;omega) (by have:=hN.2.2;omega)
abbrev tyC:Ty:=.pair (.int .i64) (.pair (.int .i64) (.pair (.int .i64) (.pair (.int .i64) (.pair (.int .i64) (.pair (.int .i64) (.pair (.int .i64) (.int .i64)))))))
abbrev tyF:Ty:=.pair (.int .i64) (.pair (.int .i64) (.pair (.int .i64) (.pair (.int .i64) (.int .i64))))
abbrev Lc:Ty:=.pair .str (.pair (.sl tyC) (.pair (.sl (.int .i64)) (.pair (.sl (.int .i64)) (.pair (.sl (.int .i64)) (.pair (.sl (.int .i64)) (.pair (.sl tyF) (.pair (.sl (.int .i64)) (.int .i64))))))))
abbrev tyT:Ty:=.pair (.sl (.int .i64)) (.sl (.int .i64))
theorem Qz2 {x:Ld} (h:Wf Lc x):S7 x:=by
 obtain ⟨h1,⟨h2,_⟩,⟨h3,_⟩,⟨h4,_⟩,⟨h5,_⟩,⟨h6,_⟩,⟨h7,_⟩,⟨h8,_⟩,_⟩:=h
 exact ⟨h1,h2,h3,h4,h5,h6,h7,h8⟩
def tkW (t:Tk):Prop:=t.1.length<=9223372036854775807/\t.2.length<=9223372036854775807
theorem Qz3 {t:Tk} (h:Wf tyT t):tkW t:=by
 obtain ⟨⟨h2,_⟩,⟨h3,_⟩⟩:=h
 exact ⟨h2,h3⟩
abbrev S8:Ty:=.pair (.int .i64) (.pair (.int .i64) (.pair (.int .i64) (.pair (.int .i64) (.pair (.int .i64) (.int .i64)))))
abbrev Le:Ty:=.pair Lc (.pair tyT (.pair (.sl (.sl S8)) (.pair (.int .i64) (.int .i64))))
theorem Qz4 {r:Rg} (h:Wf Le r):S9 r:=by
 obtain ⟨h1,h2,⟨h3,h4⟩,_⟩:=h
 exact ⟨Qz2 h1,Qz3 h2,h3,fun q hq=>(h4 q hq).1⟩
theorem Qsd {d:Nat} {r:Rg} {x:aA} (hw:S9 r):g5 (d+32) r x=some true:=by
 rw [show d+32=(d+29)+3 by omega,e5]
 obtain ⟨z,hz,hB⟩:=Qwy (d:=d+28) hw
 rw [show d+29+2=d+28+3 by omega,hz,Q9]
 by_cases h:z < 0
 .rw [Z5 h,Q4]
 obtain ⟨y0,y1,hl,cH⟩:=hB.resolve_left h
 rw [Z4 h,Q5]
 have hC:g19 (d+28+3) x=some x:=by rw [show d+28+3=d+30+1 by omega,e19]
 obtain ⟨l1,l2,l3,l4⟩:=id hl
 obtain ⟨z1,z2,z3,z4,z5,z6,z7,z8⟩:=id l1
 have hV:xj (fO r x).1:=(Z_ z1).1
 obtain ⟨hV1,hV2⟩:=hV.l
 have hen:=hV.en
 obtain ⟨v1,v2,v3,v4⟩:=id hV1
 obtain ⟨u1,u2,u3,u4,u5,u6,u7,u8⟩:=id v1
 have hT:g8 (d+28+3) r=some r:=by rw [show d+28+3=d+27+4 by omega];exact Qwz hl
 have hE:g10 (d+28+3) r r=some true:=by rw [show d+28+3=d+27+4 by omega];exact Qpt hl
 have hA:g20 (d+28+3) r x=some (fO r x):=by rw [show d+28+3=d+0+31 by omega];exact Qoy l1.sz z1
 have hS:g18 (d+28+3) r x=some (fO r x):=by rw [show d+28+3=d+17+14 by omega];exact Qn1 l1.sz z1
 have hQ:g10 (d+28+3) (fO r x).1 (fO r x).1=some true:=by rw [show d+28+3=d+27+4 by omega];exact Qpt hV1
 have hH:g14 (d+28+3) (Lf (fO r x).1) ((1:Nat):Int)=some ((xk (fO r x).1:Nat):Int):=Qq3 hV
 have hI:(fO r x).2.1.length<=1048576:=(Z_ z1).2
 have hJ:g11 (d+28+3) (fO r x).2.1 (fO r x).2.1=some true:=by rw [show d+28+3=d+30+1 by omega];exact D5 (by omega)
 have hM:g13 (d+28+3) (fO r x).2.1 ((xk (fO r x).1:Nat):Int)=some (((xk (fO r x).1+(fO r x).2.1.length:Nat):Int),jZ (xk (fO r x).1) (fO r x).2.1.length):=by rw [show d+28+3=d+30+1 by omega];exact pe hI (by omega)
 have hG:g15 (d+28+3) (jZ (xk (fO r x).1) (fO r x).2.1.length) ((xk (fO r x).1:Nat):Int)=some ((xk (fO r x).1+(fO r x).2.1.length:Nat):Int):=by rw [show d+28+3=d+30+1 by omega];exact D6 hI (by omega)
 rw [hT,Q9,hC,Q9,hS,Q9,Q9,Q9,hA,Q9,hQ,Q9,Zl,Q5,hJ,Q9,Zl,Q5,beq_self_eq_true,Zl]
 unfold Cj
 rw [Q5,show d+29+2=d+28+3 by omega,hT,Q9,hE,Q9,Zl,Q5]
 rw [show d+29=d+28+1 by omega,show (1:Int)=((1:Nat):Int) from rfl,Qa0 z2 (by omega),Q9];simp only [];rw [pe z3 (by omega),Q9];simp only [];rw [pe z4 (by omega),Q9];simp only [];rw [pe z5 (by omega),Q9];simp only [];rw [pe z6 (by omega),Q9];simp only [];rw [Q88 z7 (by omega),Q9];simp only [];rw [pe z8 (by omega),Q9];simp only [];rw [pe l2 (by omega),Q9];simp only [];rw [pe l3 (by omega),Q9];simp only []
 have hL:=OV (k:=1) l1
 unfold Ck at hL
 refine (Qdj (fun ag n i rs=>rfl) l4 cH (by omega)).trans ?_
 unfold je
 rw [Z4 (by omega),Q5,show d+28+1+2=d+28+3 by omega,hQ,Q9,Zl,Q5,hJ,Q9,Zl,Q5,beq_self_eq_true,Zl]
 unfold xA
 rw [Q5]
 rw [show d+29=d+28+1 by omega,show (1:Int)=((1:Nat):Int) from rfl,Qa0 u2 (by omega),Q9];simp only [];rw [pe u3 (by omega),Q9];simp only [];rw [pe u4 (by omega),Q9];simp only [];rw [pe u5 (by omega),Q9];simp only [];rw [pe u6 (by omega),Q9];simp only [];rw [Q88 u7 (by omega),Q9];simp only [];rw [pe u8 (by omega),Q9];simp only [];rw [pe v2 (by omega),Q9];simp only [];rw [pe v3 (by omega),Q9];simp only []
 have hL2:=OV (k:=1) v1
 unfold Ck at hL2
 refine (Qdj (fun ag n i rs=>rfl) v4 (by omega) (by omega)).trans ?_
 unfold jf
 rw [show d+28+1+2=d+28+3 by omega,show (1:Int)=((1:Nat):Int) from rfl]
 show Q1 (g13 (d+28+3) (fO r x).2.1 ((xk (fO r x).1:Nat):Int)) _=_
 rw [hM,Q9]
 simp only []
 show Q1 (g14 (d+28+3) (Lf (fO r x).1) ((1:Nat):Int)) _=_
 rw [hH,Q9,Z4 (by omega),Q5,hG,Q9,Z4 (by omega),Q5]
 rw [bne_self_eq_false,Q5,hT,Q9,hC,Q9,hA,Q9,hQ,Q9,Zl,Q5,hJ,Q9,Zl,Q5,beq_self_eq_true,Zl]
 unfold Cl
 rw [Q5]
 show Q1 (g14 (d+28+3) (Lf (fO r x).1) ((1:Nat):Int)) _=_
 rw [hH,Q9,Z4 (by omega),Q5,hG,Q9,Z4 (by omega),Q5]
 rw [bne_self_eq_false,Q5]
def tysLaw:List Ty:=[Le,tyC]
theorem lawAny:Qvm Tryz.prog Qb (32) 5 tysLaw :=
 ⟨rfl,rfl,rfl,fun a h=>by
  obtain ⟨r,x⟩:=a
  exact ⟨true,Qsd (d:=0) (Qz4 (h ⟨_,r⟩ (List.Mem.head _))),rfl⟩⟩
end Go.Proofs.YtcoimfbmgjhcjabGreatDoor
