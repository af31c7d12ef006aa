/-
  Configurations by value. And what stood behind it in 4 texts.
  Conditions: said at the theorems.
-/
import Derived.Test.YtcoimfbmgjhcjabGreatDoorK22
import Derived.Test.YtcoimfbmgjhcjabGreatDoorRepW
set_option linter.all false
namespace Go.Proofs.YtcoimfbmgjhcjabGreatDoor
open Go.Ev Go.Pv
theorem Qs4 {c:Cf} (G:Gd c):((bT c).2.1.map (·.1)).Nodup:=by
 have T:=G.tr
 show (((aG c.2.1).map (aU c.2.1)).map (·.1)).Nodup
 rw [List.map_map,List.nodup_iff_pairwise_ne,List.pairwise_map]
 exact (List.nodup_iff_pairwise_ne.1 (rG T)).imp_of_mem fun ha hb aV e=>aV (T.inj _ _ ((jI T).1 ha) ((jI T).1 hb) e)
theorem YG {l:List aC} (h:(l.map (·.1)).Nodup):l.Nodup:=by
 rw [List.nodup_iff_pairwise_ne,List.pairwise_map] at h
 exact List.nodup_iff_pairwise_ne.2 (h.imp fun h e=>h (by rw [e]))
theorem RF {c:Cf} (h:ff c=true):rH c.2.1=true:=by
 have hc:=(rI h).cl
 unfold kR at hc
 simp only [Z8] at hc
 exact hc.2.1
theorem RG {c:Cf} (h:ff c=true):(bT c).2.1.Perm c.2.1:=by
 have G:=rI h
 refine (List.perm_ext_iff_of_nodup (YG (Qs4 G)) (YG (RH (RF h)))).2 fun a=>?_
 show a∈(aG c.2.1).map (aU c.2.1)↔_
 rw [List.mem_map]
 constructor
 .rintro ⟨i,hi,rfl⟩
  exact Zc (fA ((jI G.tr).1 hi))
 .intro ha
  obtain ⟨k,hk⟩:=List.getElem?_of_mem ha
  exact ⟨(k:Int),(jI G.tr).2 (Dr hk),jU hk⟩
theorem RI {c:Cf} (h:ff c=true):eK (bT c)=c:=by
 have G:=rI h
 have h1:Ds (bT c).2.1=c.2.1:=by
  refine (List.Perm.eq_of_pairwise (le:=fun a b=>cu a<=cu b) (fun a b ha hb h1 h2=>?_) ?_ YH ((RG h).symm.trans AQ.symm)).symm
  .unfold cu at h1 h2
   exact YI (RH (RF h)) ha ((RG h).mem_iff.1 (AQ.mem_iff.1 hb)) (by omega)
  .rw [List.pairwise_iff_getElem]
   intro i j hi hj ny
   have:=Ku (RF h) j i _ _ ny (Z6 hi) (Z6 hj)
   unfold cu;omega
 have h2:BH (bT c)=c.2.2.2:=by
  show (if 0<=vH c/\vH c < (((bT c).2.1.length:Nat):Int) then (aU (bT c).2.1 (vH c)).1 else 0)=_
  unfold vH
  by_cases h0:c.2.2.2=0
  .rw [if_pos h0,if_neg (by omega),h0]
  .rw [if_neg h0]
   obtain ⟨t1,_⟩:=G.Kv h0
   obtain ⟨k,k1,k2⟩:=BI G.tr t1
   have k3:(bT c).2.1[k]? = some (aU c.2.1 (bP c.2.1 c.2.2.2)):=by
    show ((aG c.2.1).map (aU c.2.1))[k]? = _
    rw [List.getElem?_map,k1];rfl
   have k4:=(Z0 k3).1
   rw [k2,if_pos ⟨by omega,by omega⟩,jU k3]
   obtain ⟨_,x,e1,e2,e3⟩:=wM t1.1
   rw [e1,jU e2,e3]
 show (c.1,Ds (bT c).2.1,c.2.2.1,BH (bT c))=c
 rw [h1,h2]
theorem Oc {c:Cf} (h:ff c=true):eR (bT c)=true:=by
 have G:=rI h
 unfold eR Dt
 rw [RI h,h]
 have h1:=(RG h).length_eq
 have h2:=G.tr.fF
 have h3:=G.f16
 have h4:(bT c).2.2.2.2.2.2.1.length<=16:=h3
 simp only [decide_true,beq_self_eq_true,Bool.and_true,Zg,Zj]
 exact ⟨by omega,h4⟩
theorem RJ {x:Ld} (h:eR x=true) {i j:Int} (hi:vI x.2.1 i) (hj:vI x.2.1 j) (e:(aU x.2.1 i).1=(aU x.2.1 j).1):i=j:=by
 have hd:=RK (Od h) AQ
 obtain ⟨i1,i2⟩:=Z0 (fA hi)
 obtain ⟨j1,j2⟩:=Z0 (fA hj)
 have:=(List.getElem_inj (h₀:=show i.toNat < (x.2.1.map (·.1)).length by simpa using i1) (h₁:=show j.toNat < (x.2.1.map (·.1)).length by simpa using j1) hd).1 (by simp [i2,j2,e])
 have h0:=hi.1
 have h1:=hj.1
 omega
theorem RM {x:Ld} (h:eR x=true) {i:Int} (hi:vI x.2.1 i):1<=(aU x.2.1 i).1:=by
 have hm:aU x.2.1 i∈(eK x).2.1:=AQ.mem_iff.2 (Zc (fA hi))
 obtain ⟨k,hk⟩:=List.getElem?_of_mem hm
 have:=(rI (Od h)).tr.pos _ (Dr hk)
 rw [jU hk] at this;exact this
theorem Oe {α:Type} {p:α->Bool}:∀ (l:List α) (i:Nat),(∀ x∈l,p x=false)->fh p l i=-1
 | [],i,_=>rfl
 | x::r,i,h=>by
  unfold fh
  rw [if_neg (by rw [h x (by simp)];simp)]
  exact Oe r (i+1) fun y hy=>h y (by simp [hy])
def IC (n t:Int):Int:=if 0<=n then n else t
theorem YJ {p:Int->Bool}:∀ (l:List Int) (i:Nat) (t:Int),l.Pairwise (fun a b=>¬ (p a=true/\p b=true))->cF (fun w k (t:Int)=>if p w=true then ((k:Nat):Int) else t) l i t=IC (fh p l i) t
 | [],i,t,_=>by simp [cF,fh,IC]
 | x::r,i,t,h=>by
  obtain ⟨h1,h2⟩:=List.pairwise_cons.1 h
  simp only [cF]
  rw [YJ r (i+1) _ h2]
  by_cases hx:p x=true
  .have hn:fh p r (i+1)=-1:=Oe r _ fun y hy=>by
    have:=h1 y hy
    simpa [hx] using this
   have he:fh p (x::r) i=(i:Int):=if_pos hx
   rw [hn,if_pos hx,he]
   unfold IC
   rw [if_neg (by omega),if_pos (by omega)]
  .have he:fh p (x::r) i=fh p r (i+1):=if_neg hx
   rw [if_neg hx,he]
theorem RN {α τ β:Type} {p:α->Bool} {J:Int->Option β}:∀ (l:List α) (i:Nat) (t:τ),ef (fun x i t k=>aa (p x) (J ((i:Nat):Int)) (k t)) (fun _=>J (-1)) l i t=J (fh p l i)
 | [],i,t=>rfl
 | x::r,i,t=>by
  simp only [ef,fh]
  by_cases h:p x=true
  .rw [if_pos h,h,Q4]
  .rw [if_neg h,show p x=false by simpa using h,Q5];exact RN r (i+1) t
theorem Of {α τ σ β:Type} (mk:τ->Int->σ) {F:(σ->Option β)->σ->Option β} {fin:τ->Option β} {f:τ->α->τ} (I:τ->Nat->Prop) (l:List α) (hl:l.length < 4000000)
  (hs:∀ ag t (i:Nat) x n,l[i]? = some x->I t (n+1)->F ag (mk t ((i:Nat):Int))=ag (mk (f t x) ((i+1:Nat):Int)))
  (hi:∀ x∈l,∀ t n,I t (n+1)->I (f t x) n) (he:∀ ag t,F ag (mk t ((l.length:Nat):Int))=fin t) (m:Nat) (t:τ) (h:I t (l.length+m)):Q9 F Qd (mk t 0)=fin (l.foldl f t):=by
 have key:∀ (r p:List α) (fuel:Nat) (t:τ),l=p++r->r.length < fuel->I t (r.length+m)->Q9 F fuel (mk t ((p.length:Nat):Int))=fin (r.foldl f t):=by
  intro r
  induction r with
  | nil =>
   intro p fuel t e h _
   obtain ⟨n,rfl⟩:∃ n,fuel=n+1:=⟨fuel - 1,by omega⟩
   rw [List.append_nil] at e
   subst e
   exact he _ _
  | cons x r ih =>
   intro p fuel t e h hI
   obtain ⟨n,rfl⟩:∃ n,fuel=n+1:=⟨fuel - 1,by omega⟩
   simp only [Z9] at h
   rw [show (x::r).length+m=r.length+m+1 by simp;omega] at hI
   have:=ih (p++[x]) n (f t x) (by rw [e];simp) (by omega) (hi x (by rw [e];simp) t _ hI)
   rw [Zf] at this
   simp only [Q9,List.foldl_cons]
   rw [hs _ t p.length x _ (by rw [e];simp) hI]
   exact this
 exact key l [] Qd t rfl (by rw [Q6];omega) h
theorem YK {α τ:Type} {f:τ->α->τ} (I:τ->Nat->Prop):∀ (l:List α) (t:τ) (m:Nat),I t (l.length+m)->(∀ x∈l,∀ t n,I t (n+1)->I (f t x) n)->I (l.foldl f t) m
 | [],t,m,h,_=>by simpa using h
 | x::r,t,m,h,hi=>by
  rw [show (x::r).length+m=r.length+m+1 by simp;omega] at h
  exact YK I r (f t x) m (hi x (by simp) t _ h) (fun y hy=>hi y (by simp [hy]))
theorem Kw {α:Type} {l:List α} {i:Nat} {v:α} (h:l[i]? = some v):l.set i v=l:=by
 obtain ⟨h1,h2⟩:=Z0 h
 rw [<- h2,List.set_getElem_self]
theorem YL {β:Type} {F:((Int×List Int×List Int)->Option β)->(Int×List Int×List Int)->Option β} {KX:List Int->List Int->Option β} {C:List aC} {bu cb f g:aC->Int} (hC:C.length<=1000)
  (hF:∀ ag (i:Nat) c l m,C[i]? = some c->l[i]? = some (bu c)->m[i]? = some (cb c)->F ag ((i:Int),l,m)=ag (((i+1:Nat):Int),l.set i (f c),m.set i (g c)))
  (hE:∀ ag l m,F ag (((C.length:Nat):Int),l,m)=KX l m):Q9 F Qd (0,C.map bu,C.map cb)=KX (C.map f) (C.map g):=by
 have key:∀ (r p:List aC) (fuel:Nat),C=p++r->r.length < fuel->Q9 F fuel (((p.length:Nat):Int),p.map f++r.map bu,p.map g++r.map cb)=KX (C.map f) (C.map g):=by
  intro r
  induction r with
  | nil =>
   intro p fuel e h
   obtain ⟨n,rfl⟩:∃ n,fuel=n+1:=⟨fuel - 1,by omega⟩
   rw [List.append_nil] at e
   subst e
   simp only [Q9,List.map_nil,List.append_nil]
   exact hE _ _ _
  | cons c r ih =>
   intro p fuel e h
   obtain ⟨n,rfl⟩:∃ n,fuel=n+1:=⟨fuel - 1,by omega⟩
   simp only [Z9] at h
   simp only [Q9,List.map_cons]
   rw [hF _ p.length c _ _ (by rw [e];simp) (by simp) (by simp)]
   have:=ih (p++[c]) n (by rw [e];simp) (by omega)
   rw [Zf,List.map_append,List.map_append,List.append_assoc,List.append_assoc] at this
   simp only [Z9,Zb,List.map_cons,List.map_nil,List.singleton_append] at this
   have e1:=Fk (p:=p.map f) (r:=r.map bu) (x:=bu c) (y:=f c)
   have e2:=Fk (p:=p.map g) (r:=r.map cb) (x:=cb c) (y:=g c)
   rw [List.length_map] at e1 e2
   rw [e1,e2]
   exact this
 exact key C [] Qd rfl (by rw [Q6];omega)
def RO (b n:Int):Int:=if b < n then b else n
theorem RP {b n:Int}:min n b=RO b n:=by unfold RO;rw [Int.min_def];split<;>split<;>omega
def Du (old:List aC) (ts:List Int) (k:aC) (b:Int):Int:=if 0<=bP old k.1 then RO b (ts.getD (bP old k.1).toNat 0) else b
def AS (r:Rg) (x:Ld):Tk:=(x.2.1.map fun k=>Du r.1.2.1 r.2.1.1 k k.2.2.2.2.1,x.2.1.map fun k=>Du r.1.2.1 r.2.1.2 k k.2.2.2.2.2.1)
abbrev Ls:=List Int×List (List Pk)
def oA (x:Ld) (t:Ls) (p:Pk):Ls:=Dv x t.2 p (t.1++[p.1],t.2) (fun _=>(t.1++[p.1],t.2)) (fun _=>(t.1,ID x t.2 p))
def AT (r:Rg) (x:Ld):Ls:=r.2.2.1.foldl (fun t q=>q.foldl (oA x) t) ([],List.replicate (bU x.2.2.2.1).length [])
def vJ (r:Rg):Int:=if r.2.2.2.1 < 0 then 0 else (aU r.1.2.1 ((bU r.1.2.2.2.1).getD r.2.2.2.1.toNat 0)).1
def BJ (r:Rg) (x:Ld):Int:=fh (fun w=>(aU x.2.1 w).1==vJ r) (bU x.2.2.2.1) 0
def Fl (r:Rg) (x:Ld):Rg×List Int:=((x,AS r x,(AT r x).2,BJ r x,r.2.2.2.2),(AT r x).1)
def Kx (x:Ld) (t:Ls) (n:Nat):Prop:=Pu x t.2/\t.1.length+n<=100000
def gT (x:Ld) (t:Ls) (n:Nat):Prop:=Pu x t.2/\t.1.length+60*n<=100000
theorem RQ {x:Ld} {rows:List (List Pk)} {p:Pk} (P:Pu x rows) (h:¬ cE x p < 0) (hn:¬ (((rJ x rows p).length:Nat):Int)=mO x (cE x p)):Pu x (ID x rows p):=by
 have a:=RR P h
 have hl:=a.ai
 refine ⟨P.lk,P.lr,P.lf,by unfold ID;rw [List.length_set];exact P.rl,fun k w hw=>?_⟩
 have:=P.lm k w hw
 unfold ID
 rw [Zr,List.getElem?_set]
 split
 .rename_i e
  rw [<- e,a.get] at hw
  injection hw with hw
  rw [if_pos a.lt]
  simp only [Option.getD_some,Zf,Z9,Zb]
  rw [<- hw];omega
 .rw [<- Zr];exact this
theorem RS {x:Ld} {t:Ls} {p:Pk} {n:Nat} (h:Kx x t (n+1)):Kx x (oA x t p) n:=by
 obtain ⟨P,hn⟩:=h
 unfold oA Dv
 split
 .exact ⟨P,by simp;omega⟩
 .split
  .exact ⟨P,by simp;omega⟩
  .rename_i h1 h2
   exact ⟨RQ P h1 h2,by simp only;omega⟩
theorem RT {x:Ld} {t:Ls} {q:List Pk} {n:Nat} (hq:q.length<=60) (h:gT x t (n+1)):gT x (q.foldl (oA x) t) n:=by
 have:=YK (f:=oA x) (Kx x) q t (60*n) ⟨h.1,by have:=h.2;omega⟩ (fun p _ t n h=>RS h)
 exact ⟨this.1,this.2⟩
theorem Qyk {x:Ld} (h:eR x=true):Pu x (List.replicate (bU x.2.2.2.1).length []):=by
 have L:=vK h
 have R:=IE h
 refine ⟨L,R,fun p=>RU h p,by rw [List.length_replicate],fun k w hw=>?_⟩
 have hk:=(Z0 hw).1
 rw [Zr,List.getElem?_replicate,if_pos hk]
 have hm:=Zc hw
 obtain ⟨v1,v2⟩:=Fm hm
 have hf:=L.fl
 exact R.l0 _ (Zc (fA ⟨v1,by omega⟩))
theorem RV {x:Ld} (h:eR x=true) {n:Nat} (hn:n<=1000):gT x ([],List.replicate (bU x.2.2.2.1).length []) n:=⟨Qyk h,by simp;omega⟩
theorem RW {d:Nat} {r:Rg} {x:Ld} {KX:List Int->List Int->Option (Rg×List Int)} (O:Ro r) (hx:x.2.1.length<=1000):Q9 (kW d r x KX) Qd (0,(BK x).1,(BK x).2)=KX (AS r x).1 (AS r x).2:=by
 have iE:=O.lk.fF
 refine YL (C:=x.2.1) (bu:=fun k=>k.2.2.2.2.1) (cb:=fun k=>k.2.2.2.2.2.1) (f:=fun k=>Du r.1.2.1 r.2.1.1 k k.2.2.2.2.1) (g:=fun k=>Du r.1.2.1 r.2.1.2 k k.2.2.2.2.2.1) hx ?_ ?_
 .intro ag i c l m hc hl hm
  have hi:=(Z0 hc).1
  have ir:=(Z0 hl).1
  have Og:=(Z0 hm).1
  simp only [kW,bW hc,nn,Q3,hc,Q8,Q4,tj hc]
  refine (Qc (fun (t:Int) (j:Int)=>(t,j)) r.1.2.1 (fun y j t k=>aa (y.1==c.1) (cA d r ag ((i:Nat):Int) l m c ((j:Nat):Int)) (k t)) (fun _=>cA d r ag ((i:Nat):Int) l m c (-1)) ?_ ?_ (by rw [Q6];omega) 0).trans ((RN (J:=fun n=>cA d r ag ((i:Nat):Int) l m c n) r.1.2.1 0 0).trans ?_)
  .intro ag t i x hx;have hi:=(Z0 hx).1;simp only [fR,bW hx,nn,Q3,hx,Q8,Q4];rw [aN (by omega)]
  .intro ag t;simp only [fR,bB,Q5];rfl
  .show cA d r ag ((i:Nat):Int) l m c (bP r.1.2.1 c.1)=_
   unfold cA Du
   by_cases h:0<=bP r.1.2.1 c.1
   .have au:=BL (l:=r.1.2.1) (id:=c.1)
    have t1:=O.t1
    have t2:=O.t2
    have e1:r.2.1.1[(bP r.1.2.1 c.1).toNat]? = some (r.2.1.1.getD (bP r.1.2.1 c.1).toNat 0):=nA (by omega)
    have e2:r.2.1.2[(bP r.1.2.1 c.1).toNat]? = some (r.2.1.2.getD (bP r.1.2.1 c.1).toNat 0):=nA (by omega)
    rw [Z5 (show bP r.1.2.1 c.1>=0 from h),Q4,e1,e2]
    simp only [nn,Q3,Q4,Q8,Qo ir,Qo Og,hl,hm]
    rw [aN (by omega),if_pos h,if_pos h]
    rfl
   .rw [Z4 (show ¬ bP r.1.2.1 c.1>=0 from h),Q5,aN (by omega),if_neg h,if_neg h,Kw hl,Kw hm]
 .intro ag l m;simp only [kW,bB,Q5]
theorem RX {d:Nat} {x:Ld} {q:List Pk} {kx:Int->List Int->List (List Pk)->Option (Rg×List Int)} {t:Ls} {n:Nat} (hq:q.length<=60) (h:gT x t (n+1)):Q9 (kX (d+3) x q kx) Qd (t.1,0,t.2)=kx ((q.length:Nat):Int) (q.foldl (oA x) t).1 (q.foldl (oA x) t).2:=by
 refine Of (fun (t:Ls) (i:Int)=>(t.1,i,t.2)) (fin:=fun t=>kx ((q.length:Nat):Int) t.1 t.2) (f:=oA x) (Kx x) q (by omega) (fun ag t i p n hp hI=>?_) (fun p _ t n h=>RS h) (fun ag t=>?_) (60*n) t ⟨h.1,by have:=h.2;omega⟩
 .obtain ⟨P,hn⟩:=hI
  have hi:=(Z0 hp).1
  simp only [kX,bW hp,nn,Q3,hp,Q8,Q4]
  rw [show d+3+1=d+4 by omega,YM P.lr,Q8]
  refine (RY (d:=d+3) (x:=x) (rows:=t.2) (p:=p) (A:=cB (d+3) ag t.1 ((i:Nat):Int) p 3 0 t.2) (B:=fun y=>cB (d+3) ag t.1 ((i:Nat):Int) p 2 y.1 t.2) (C:=fun y rows=>cB (d+3) ag t.1 ((i:Nat):Int) p 1 y.1 rows) P).trans ?_
  unfold oA Dv cB
  split
  .rw [show ((3:Int) != 1)=true from rfl,Q4,room (by simp;omega),Q4,aN (by omega)]
  .split
   .rw [show ((2:Int) != 1)=true from rfl,Q4,room (by simp;omega),Q4,aN (by omega)]
   .rw [show ((1:Int) != 1)=false from rfl,Q5,aN (by omega)]
 .simp only [kX,bB,Q5]
theorem Qyl {d:Nat} {r:Rg} {x:Ld} {kx:List Int->List (List Pk)->Option (Rg×List Int)} (O:Ro r) (h:eR x=true):Q9 (kY (d+3) r x kx) Qd ([],0,List.replicate (bU x.2.2.2.1).length [])=kx (AT r x).1 (AT r x).2:=by
 have hb:=RZ O
 refine Of (fun (t:Ls) (i:Int)=>(t.1,i,t.2)) (fin:=fun t=>kx t.1 t.2) (f:=fun t q=>q.foldl (oA x) t) (gT x) r.2.2.1 (by omega) (fun ag t i q n hq hI=>?_) (fun q hq t n h=>RT (O.rb q hq) h) (fun ag t=>?_) 0 ([],_) (RV h (by omega))
 .have hi:=(Z0 hq).1
  simp only [kY,bW hq,nn,Q3,hq,Q8,Q4]
  refine (RX (O.rb q (Zc hq)) hI).trans ?_
  unfold wN
  rw [aN (by omega)]
 .simp only [kY,bB,Q5]
theorem YN {r:Rg} (O:Ro r) (h:¬ r.2.2.2.1 < 0):(bU r.1.2.2.2.1)[r.2.2.2.1.toNat]? = some ((bU r.1.2.2.2.1).getD r.2.2.2.1.toNat 0)/\vI r.1.2.1 ((bU r.1.2.2.2.1).getD r.2.2.2.1.toNat 0):=by
 have la:=O.la
 have hf:=O.lk.fl
 have hg:=nA (l:=bU r.1.2.2.2.1) (i:=r.2.2.2.1.toNat) (z:=0) (by omega)
 obtain ⟨v1,v2⟩:=Fm (Zc hg)
 exact ⟨hg,v1,by omega⟩
theorem IF {x:Ld} (L:Lk x) {w:Int} (h:w∈bU x.2.2.2.1):vI x.2.1 w:=by
 have hf:=L.fl
 obtain ⟨v1,v2⟩:=Fm h
 exact ⟨v1,by omega⟩
theorem R0 {r:Rg} {x:Ld} (h:eR x=true) (h0:r.2.2.2.1 < 0):BJ r x=-1:=by
 unfold BJ vJ
 rw [if_pos h0]
 refine Oe _ _ fun w hw=>?_
 have:=RM h (IF (vK h) hw)
 rw [beq_eq_false_iff_ne];omega
theorem Qym {d:Nat} {r:Rg} {x:Ld} {a b lost:List Int} {rows:List (List Pk)} (O:Ro r) (h:eR x=true):oW (d+3) r x a b lost rows=some ((x,(a,b),rows,BJ r x,r.2.2.2.2),lost):=by
 have L:=vK h
 have iE:=L.fF
 have hf:=L.fl
 have hv:=AU (F:=x.2.2.2.1)
 have Ky:=O.lk.fF
 unfold oW
 by_cases h0:r.2.2.2.1 < 0
 .rw [Z4 (show ¬ r.2.2.2.1>=0 by omega),Q5,R0 h h0]
 .obtain ⟨g1,g2⟩:=YN O h0
  have au:=(Z0 g1).1
  rw [Z5 (show r.2.2.2.1>=0 by omega),Q4,show d+3+2=d+4+1 by omega,Kz (by omega) O.lk.fl,Q8,Q4,Qo au,Q4,g1,Q8,Z5 g2.1,Q4,fA g2,Q8,Kz (by omega) hf,Q8]
  have hl:(aU r.1.2.1 ((bU r.1.2.2.2.1).getD r.2.2.2.1.toNat 0)).1=vJ r:=by unfold vJ;rw [if_neg h0]
  refine (Qc (fun (t:Int) (j:Int)=>(t,j)) (bU x.2.2.2.1) (fun w j t k=>aa ((aU x.2.1 w).1==vJ r) (some (((x,(a,b),rows,((j:Nat):Int),r.2.2.2.2):Rg),lost)) (k t)) (fun _=>some (((x,(a,b),rows,(-1),r.2.2.2.2):Rg),lost)) ?_ ?_ (by rw [Q6];omega) 0).trans (RN (J:=fun n=>some (((x,(a,b),rows,n,r.2.2.2.2):Rg),lost)) (bU x.2.2.2.1) 0 0)
  .intro ag t i w hx
   have hi:=(Z0 hx).1
   have hw:=IF L (Zc hx)
   simp only [fS,bW hx,nn,Q3,hx,Q8,Q4,tj hx]
   rw [Z5 hw.1,Q4,Qo (by have:=hw;unfold vI at this;omega),Q4,fA hw,Q8,aN (by omega),hl]
  .intro ag t;simp only [fS,bB,Q5];rfl
theorem Qb2 {d:Nat} {r:Rg} {c:Cf} (hr:jV r=true) (hc:ff c=true):Fo (d+17) r c=some (Fl r (bT c)):=by
 have O:=Oh hr
 have h:=Oc hc
 have L:=vK h
 have iE:=L.fF
 have hf:=L.fl
 have hv:=AU (F:=(bT c).2.2.2.1)
 rw [show d+17=d+14+3 by omega,R3,show d+14+2=d+2+14 by omega,YO (rI hc),Q8,show d+2+14=d+15+1 by omega,Qhm (by omega),Q8,Kz (by omega) hf,Q8]
 rw [nn,Q4,Q4,Q3,show (Nat.ble (bU (bT c).2.2.2.1).length (bU (bT c).2.2.2.1).length&&Nat.ble ((bU (bT c).2.2.2.1).length*24) Q7)=true by rw [Z8,Nat.ble_eq,Nat.ble_eq];unfold Q7;omega,Q4]
 refine (RW O (by omega)).trans ?_
 unfold wO
 rw [Q3]
 refine (Qyl (d:=d+11) O h).trans ?_
 exact Qym (d:=d+11) O h
theorem Qvv {d:Nat} {c:Cf} (hc:ff c=true):R4 (d+11) c=some (bT c,BK (bT c),List.replicate (bU (bT c).2.2.2.1).length [],-1,0):=by
 have L:=vK (Oc hc)
 have iE:=L.fF
 have hf:=L.fl
 have hv:=AU (F:=(bT c).2.2.2.1)
 rw [e98,YP (rI hc),Q8,show d+10=d+9+1 by omega,Qt4 (by omega),Q8,show d+9+1=d+8+2 by omega,IG (by omega) hf,Q8]
 rw [nn,Q4,Q4,Q3,show (Nat.ble (bU (bT c).2.2.2.1).length (bU (bT c).2.2.2.1).length&&Nat.ble ((bU (bT c).2.2.2.1).length*24) Q7)=true by rw [Z8,Nat.ble_eq,Nat.ble_eq];unfold Q7;omega,Q4]
theorem R5 {d:Nat} {r z:Rg} {KX:List Int->List Int->Option (Rg×List Int)} (O:Ro r) (hx:z.1.2.1.length<=1000):Q9 (rK d r z KX) Qd (0,(BK z.1).1,(BK z.1).2)=KX (AS r z.1).1 (AS r z.1).2:=by
 have iE:=O.lk.fF
 refine YL (C:=z.1.2.1) (bu:=fun k=>k.2.2.2.2.1) (cb:=fun k=>k.2.2.2.2.2.1) (f:=fun k=>Du r.1.2.1 r.2.1.1 k k.2.2.2.2.1) (g:=fun k=>Du r.1.2.1 r.2.1.2 k k.2.2.2.2.2.1) hx ?_ ?_
 .intro ag i c l m hc hl hm
  have hi:=(Z0 hc).1
  have ir:=(Z0 hl).1
  have Og:=(Z0 hm).1
  simp only [rK,bW hc,nn,Q3,hc,Q8,Q4,tj hc]
  rw [Qzk (by omega),Q8]
  unfold Du
  by_cases h:0<=bP r.1.2.1 c.1
  .have au:=BL (l:=r.1.2.1) (id:=c.1)
   have t1:=O.t1
   have t2:=O.t2
   have e1:r.2.1.1[(bP r.1.2.1 c.1).toNat]? = some (r.2.1.1.getD (bP r.1.2.1 c.1).toNat 0):=nA (by omega)
   have e2:r.2.1.2[(bP r.1.2.1 c.1).toNat]? = some (r.2.1.2.getD (bP r.1.2.1 c.1).toNat 0):=nA (by omega)
   rw [Z5 (show bP r.1.2.1 c.1>=0 from h),Q4,e1,e2]
   simp only [nn,Q3,Q4,Q8,Qo ir,Qo Og,hl,hm,Qos,RP]
   rw [aN (by omega),if_pos h,if_pos h]
  .rw [Z4 (show ¬ bP r.1.2.1 c.1>=0 from h),Q5,aN (by omega),if_neg h,if_neg h,Kw hl,Kw hm]
 .intro ag l m;simp only [rK,bB,Q5]
theorem R6 {d:Nat} {x1:ByteArray} {x2:List aC} {x3 x4 x5 x6:List Int} {x7:List dV} {x8:List Int} {x9:Int} {q:List Pk} {kx:Int->List Int->List (List Pk)->Option (Rg×List Int)} {t:Ls} {n:Nat} (hq:q.length<=60) (h:gT (x1,x2,x3,x4,x5,x6,x7,x8,x9) t (n+1)):Q9 (rL (d+4) x1 x9 x2 x3 x4 x5 x6 x7 x8 q kx) Qd (t.1,0,t.2)=kx ((q.length:Nat):Int) (q.foldl (oA (x1,x2,x3,x4,x5,x6,x7,x8,x9)) t).1 (q.foldl (oA (x1,x2,x3,x4,x5,x6,x7,x8,x9)) t).2:=by
 refine Of (fun (t:Ls) (i:Int)=>(t.1,i,t.2)) (fin:=fun t=>kx ((q.length:Nat):Int) t.1 t.2) (f:=oA (x1,x2,x3,x4,x5,x6,x7,x8,x9)) (Kx (x1,x2,x3,x4,x5,x6,x7,x8,x9)) q (by omega) (fun ag t i p n hp hI=>?_) (fun p _ t n h=>RS h) (fun ag t=>?_) (60*n) t ⟨h.1,by have:=h.2;omega⟩
 .obtain ⟨P,hn⟩:=hI
  have hi:=(Z0 hp).1
  simp only [rL,bW hp,nn,Q3,hp,Q8,Q4]
  rw [YQ P.lr,Q8]
  refine (R7 (x:=(x1,x2,x3,x4,x5,x6,x7,x8,x9)) (rows:=t.2) (p:=p) (A:=cT (d+4) ag t.1 ((i:Nat):Int) p 3 0 t.2) (B:=fun y=>cT (d+4) ag t.1 ((i:Nat):Int) p 2 y.1 t.2) (C:=fun y rows=>cT (d+4) ag t.1 ((i:Nat):Int) p 1 y.1 rows) P (fun a y=>?_)).trans ?_
  .have iE:=P.lk.fF
   refine (Qzl (d:=d+2) (K:=fun k=>gU (d+4) ag t.1 ((i:Nat):Int) t.2 p y k) a (by omega) P.lk.fl (fun ag k=>?_)).trans ?_
   .simp only [kq]
   .unfold gU R8;rfl
  .unfold oA Dv cT
   split
   .rw [show ((3:Int) != 1)=true from rfl,Q4,room (by simp;omega),Q4,aN (by omega)]
   .split
    .rw [show ((2:Int) != 1)=true from rfl,Q4,room (by simp;omega),Q4,aN (by omega)]
    .rw [show ((1:Int) != 1)=false from rfl,Q5,aN (by omega)]
 .simp only [rL,bB,Q5]
theorem Qyn {d:Nat} {r:Rg} {x:Ld} {kx:List Int->List (List Pk)->Option (Rg×List Int)} (O:Ro r) (h:eR x=true):Q9 (rM (d+4) r x.1 x.2.2.2.2.2.2.2.2 x.2.1 x.2.2.1 x.2.2.2.1 x.2.2.2.2.1 x.2.2.2.2.2.1 x.2.2.2.2.2.2.1 x.2.2.2.2.2.2.2.1 kx) Qd ([],0,List.replicate (bU x.2.2.2.1).length [])=kx (AT r x).1 (AT r x).2:=by
 have hb:=RZ O
 refine Of (fun (t:Ls) (i:Int)=>(t.1,i,t.2)) (fin:=fun t=>kx t.1 t.2) (f:=fun t q=>q.foldl (oA x) t) (gT x) r.2.2.1 (by omega) (fun ag t i q n hq hI=>?_) (fun q hq t n h=>RT (O.rb q hq) h) (fun ag t=>?_) 0 ([],_) (RV h (by omega))
 .have hi:=(Z0 hq).1
  simp only [rM,bW hq,nn,Q3,hq,Q8,Q4]
  refine (R6 (O.rb q (Zc hq)) hI).trans ?_
  unfold Dw
  rw [aN (by omega)]
 .simp only [rM,bB,Q5]
theorem Qs6 {d:Nat} {r:Rg} (O:Ro r):Fp (d+3) r=some (vJ r):=by
 have Ky:=O.lk.fF
 rw [R9]
 unfold vJ
 by_cases h0:r.2.2.2.1 < 0
 .rw [Z5 h0,Q4,if_pos h0]
 .obtain ⟨g1,g2⟩:=YN O h0
  have au:=(Z0 g1).1
  rw [Z4 h0,Q5,IG (by omega) O.lk.fl,Q8,Z5 (show 0<=r.2.2.2.1 by omega),Q4,Qo au,Q4,g1,Q8,Z5 g2.1,Q4,fA g2,Q8,if_neg h0]
theorem Qvw {x:Ld} (h:eR x=true) {n:Int}:(bU x.2.2.2.1).Pairwise (fun a b=>¬ (((aU x.2.1 a).1==n)=true/\((aU x.2.1 b).1==n)=true)):=by
 refine (List.nodup_iff_pairwise_ne.1 R_).imp_of_mem fun {a b} ha hb aV ⟨e1,e2⟩=>aV ?_
 exact RJ h (IF (vK h) ha) (IF (vK h) hb) ((beq_iff_eq.1 e1).trans (beq_iff_eq.1 e2).symm)
theorem Qjl {d:Nat} {r:Rg} {c:Cf} (hr:jV r=true) (hc:ff c=true):Sa (d+12) r c=some (Fl r (bT c)):=by
 have O:=Oh hr
 have h:=Oc hc
 have L:=vK h
 have iE:=L.fF
 have hf:=L.fl
 have hv:=AU (F:=(bT c).2.2.2.1)
 rw [show d+12=d+10+2 by omega,e65,show d+10+1=d+11 by omega,Qvv hc,Q8]
 generalize bT c=x at *
 refine (R5 (z:=(x,BK x,List.replicate (bU x.2.2.2.1).length [],-1,0)) O (by show x.2.1.length<=1000;omega)).trans ?_
 show wP (d+10) r (x,BK x,List.replicate (bU x.2.2.2.1).length [],-1,0) (AS r x).1 (AS r x).2=_
 unfold wP
 simp only []
 rw [show d+10+1=d+9+2 by omega,IG (by omega) hf,Q8]
 refine (Qc (fun (t:Int) (i:Int)=>(i,((x,AS r x,List.replicate (bU x.2.2.2.1).length [],t,r.2.2.2.2):Rg))) (bU x.2.2.2.1) (fun w i t k=>k (if ((aU x.2.1 w).1==vJ r)=true then ((i:Nat):Int) else t)) (fun t=>wQ (d+10) r x.1 x.2.2.2.2.2.2.2.2 t r.2.2.2.2 x.2.1 x.2.2.1 x.2.2.2.1 x.2.2.2.2.1 x.2.2.2.2.2.1 x.2.2.2.2.2.2.1 x.2.2.2.2.2.2.2.1 (AS r x).1 (AS r x).2 (List.replicate (bU x.2.2.2.1).length [])) ?_ ?_ (by rw [Q6];omega) (-1)).trans ?_
 .intro ag t i w hx
  have hi:=(Z0 hx).1
  have hw:=IF L (Zc hx)
  simp only [wR,bW hx,nn,Q3,hx,Q8,Q4,tj hx]
  rw [Z5 hw.1,Q4,Qo (by have:=hw;unfold vI at this;omega),Q4,fA hw,Q8,show d+10+1=d+8+3 by omega,Qs6 O,Q8,aN (by omega)]
  cases ((aU x.2.1 w).1==vJ r)<;>rfl
 .intro ag t;simp only [wR,bB,Q5]
 .rw [wS (f:=fun w i (t:Int)=>if ((aU x.2.1 w).1==vJ r)=true then ((i:Nat):Int) else t),YJ (p:=fun w=>(aU x.2.1 w).1==vJ r) _ _ _ (Qvw h)]
  have Dx:IC (fh (fun w=>(aU x.2.1 w).1==vJ r) (bU x.2.2.2.1) 0) (-1)=BJ r x:=by
   show IC (BJ r x) (-1)=BJ r x
   unfold IC
   split
   .rfl
   .rename_i hn
    have:BJ r x < 0:=by omega
    unfold BJ at this ⊢
    exact (Oe _ _ (KA.1 this)).symm
  rw [Dx]
  unfold wQ
  refine (Qyn (d:=d+6) O h).trans ?_
  rfl
def zR:Rg:=((⟨#[]⟩,[],[],[],[],[],[],[],0),([],[]),[],0,0)
abbrev Rr:=Rg×List Int×Bool
def II:Rr:=(zR,[],false)
def Dy (r:Rg) (c:Cf):Rr:=if ff c=true then ((Fl r (bT c)).1,(Fl r (bT c)).2,true) else II
def Sb (r:Rg) (c:Cf):Rr:=if jV r=true then Dy r c else II
theorem Qb3 {d:Nat} {r:Rg} {c:Cf} (h:wT r.1) (hl:c.2.1.length < 4000000) (hf:c.2.2.1.length < 4000000):Oi (d+29) r c=some (Sb r c):=by
 rw [e72,YR h,Q8]
 try unfold wU
 unfold Sb Dy
 cases hg:jV r with
 | false=>rfl
 | true =>
  rw [Zl,Q5,show d+28=(d+20)+8 by omega,Oj hl hf,Q8,if_pos rfl]
  cases hc:ff c with
  | false=>rfl
  | true=>rw [Zl,Q5,show d+20+8=d+11+17 by omega,Qb2 hg hc,Q8,if_pos rfl]
theorem Qmt {d:Nat} {r:Rg} {c:Cf} (hr:jV r=true) (hs:c.1.size < 4000000) (hf:c.2.2.1.length < 4000000):KB (d+13) r c true=some (Dy r c):=by
 rw [YS,Zl,Q5,show d+12=d+7+5 by omega,Ol hs hf,Q8]
 unfold Dy
 cases hc:ff c with
 | false=>rfl
 | true=>rw [Zl,Q5,show d+7+5=d+12 by omega,Qjl hr hc,Q8,if_pos rfl]
theorem YT {x:Ld}:∀ (l:List (List Pk)) (t:Ls) (n:Nat),(∀ q∈l,q.length<=60)->gT x t (l.length+n)->gT x (l.foldl (fun t q=>q.foldl (oA x) t) t) n
 | [],t,n,_,h=>by simpa using h
 | q::l,t,n,hq,h=>by
  rw [show (q::l).length+n=l.length+n+1 by simp;omega] at h
  exact YT l _ n (fun z hz=>hq z (by simp [hz])) (RT (hq q (by simp)) h)
theorem Sc {r:Rg} {x:Ld} (O:Ro r) (h:eR x=true):gT x (AT r x) 0:=YT r.2.2.1 _ 0 O.rb (RV h (by have:=RZ O;omega))
theorem Fq:wV zR:=⟨⟨by show (0:Nat)<=_;omega,Nat.zero_le _,Nat.zero_le _,Nat.zero_le _,Nat.zero_le _,Nat.zero_le _,Nat.zero_le _,Nat.zero_le _⟩,⟨Nat.zero_le _,Nat.zero_le _⟩,Nat.zero_le _,fun q hq=>by simp [zR] at hq⟩
theorem Sd {r:Rg} {c:Cf} (hr:jV r=true) (hs:c.1.size<=1048576) (hc:ff c=true):wV (Fl r (bT c)).1/\(Fl r (bT c)).2.length<=100000:=by
 have O:=Oh hr
 have h:=Oc hc
 have L:=vK h
 have iE:=L.fF
 have hp:=L.pl
 have hf:=L.fl
 have Fs:=(IE h).f16
 obtain ⟨n1,n2,n3⟩:=Qwu h
 have hv:=AU (F:=(bT c).2.2.2.1)
 obtain ⟨P,hn⟩:=Sc O h
 have ku:=P.rl
 refine ⟨⟨⟨hs,by show (bT c).2.1.length<=_;omega,by show (bT c).2.2.1.length<=_;omega,by show (bT c).2.2.2.1.length<=_;omega,by show (bT c).2.2.2.2.1.length<=_;omega,by show (bT c).2.2.2.2.2.1.length<=_;omega,by show (bT c).2.2.2.2.2.2.1.length<=_;omega,by show (bT c).2.2.2.2.2.2.2.1.length<=_;omega⟩,⟨?_,?_⟩,?_,fun q hq=>?_⟩,by show (AT r (bT c)).1.length<=_;omega⟩
 .show ((bT c).2.1.map _).length<=_;rw [List.length_map];omega
 .show ((bT c).2.1.map _).length<=_;rw [List.length_map];omega
 .show (AT r (bT c)).2.length<=_;omega
 .obtain ⟨k,hk⟩:=List.getElem?_of_mem (show q∈(AT r (bT c)).2 from hq)
  have au:=(Z0 hk).1
  have hw:=Z6 (l:=bU (bT c).2.2.2.1) (i:=k) (by omega)
  have:=P.lm k _ hw
  rw [Zr,hk] at this
  have IJ:=(IE h).ai _ (Zc (fA (IF L (Zc hw))))
  unfold mO at this
  simp only [Option.getD_some] at this
  omega
theorem Se {r:Rg} {c:Cf} (hr:jV r=true) (hs:c.1.size<=1048576):wV (Dy r c).1/\(Dy r c).2.1.length<=1048576:=by
 unfold Dy
 split
 .rename_i hc;obtain ⟨h1,h2⟩:=Sd hr hs hc;exact ⟨h1,by show (Fl r (bT c)).2.length<=_;omega⟩
 .exact ⟨Fq,Nat.zero_le _⟩
theorem wV.en {r:Rg} (h:wV r):wW r<=40000000:=by
 have hf:=h.l.2
 obtain ⟨h1,⟨h2,h3⟩,_,_⟩:=h
 have:=Om (k:=1) h1
 unfold wW IK;omega
theorem Qvx {d:Nat} {r:Rg} {c:Cf}:KB (d+1) r c false=some II:=by
 rw [YS,Bool.not_false,Q4];rfl
def BM (c:Cf):Cf×Bool:=if ff c=true then (c,true) else (zC,false)
theorem Qmu {d:Nat} {c:Cf} (hl:c.2.1.length < 4000000) (hf:c.2.2.1.length < 4000000):On (d+9) c=some (BM c):=by
 rw [e77,Oj hl hf,Q8]
 unfold BM
 cases hg:ff c with
 | false=>rfl
 | true=>rw [if_pos rfl,Zl,Q5]
theorem Qyp {d:Nat} {c:Cf} (hs:c.1.size < 4000000) (hf:c.2.2.1.length < 4000000):Oo (d+6) c=some (BM c):=by
 rw [e63,Ol hs hf,Q8]
 unfold BM
 cases hg:ff c with
 | false=>rfl
 | true=>rw [if_pos rfl,Zl,Q5]
theorem Qeo {d:Nat} {c:Cf} (hl:c.2.1.length<=1000) (hf:c.2.2.1.length<=1000):Sf (d+2) c=some c:=by
 rw [e76,YU hl,Q8,Sg (by omega),Q8]
theorem Qvy {d:Nat} {c:Cf} (hl:c.2.1.length<=1000) (hf:c.2.2.1.length<=1000):Sh (d+1) c=some c:=by
 rw [e61,room (by simp;omega),Q4,room (by simp;omega),Q4,List.nil_append,List.nil_append]
def Dz (r:Rg) (z:Cf×Bool):Rr:=if z.2=true then Dy r z.1 else II
theorem Qvz {d:Nat} {r:Rg} {z:Cf×Bool} (h:wT r.1) (hr:jV r=true) (hl:z.1.2.1.length < 4000000) (hf:z.1.2.2.1.length < 4000000):aa (!z.2) (some II) (Q1 (Oi (d+29) r z.1) fun w=>some (w.1,w.2.1,w.2.2))=some (Dz r z):=by
 unfold Dz
 cases hz:z.2 with
 | false=>rfl
 | true =>
  rw [Zl,Q5,Qb3 h hl hf,Q8,if_pos rfl]
  unfold Sb
  rw [if_pos hr]
theorem Qw0 {d:Nat} {r:Rg} {z:Cf×Bool} (hr:jV r=true) (hs:z.1.1.size < 4000000) (hf:z.1.2.2.1.length < 4000000):Q1 (KB (d+13) r z.1 z.2) (fun w=>some (w.1,w.2.1,w.2.2))=some (Dz r z):=by
 unfold Dz
 cases hz:z.2 with
 | false=>rw [show d+13=d+12+1 by omega,Qvx,Q8];rfl
 | true=>rw [Qmt hr hs hf,Q8,if_pos rfl]
theorem Qw1 {c:Cf} (hs:c.1.size<=1048576) (hl:c.2.1.length<=1000) (hf:c.2.2.1.length<=1000):(BM c).1.1.size<=1048576/\(BM c).1.2.1.length<=1000/\(BM c).1.2.2.1.length<=1000:=by
 unfold BM
 split
 .exact ⟨hs,hl,hf⟩
 .exact ⟨by show (0:Nat)<=_;omega,Nat.zero_le _,Nat.zero_le _⟩
def Si (z:Cf×Bool):Prop:=z.1.1.size<=1048576/\z.1.2.1.length<=1000/\z.1.2.2.1.length<=1000
theorem Qyq {r:Rg} {z:Cf×Bool} (hr:jV r=true) (h:Si z):wV (Dz r z).1/\(Dz r z).2.1.length<=1048576:=by
 unfold Dz
 split
 .exact Se hr h.1
 .exact ⟨Fq,Nat.zero_le _⟩
theorem Sj:Si (zC,false):=⟨by show (0:Nat)<=_;omega,Nat.zero_le _,Nat.zero_le _⟩
def Oq (l:List aC) (i n:Int):List aC:=l.set i.toNat ((aU l i).1,(aU l i).2.1,(aU l i).2.2.1,(aU l i).2.2.2.1,(aU l i).2.2.2.2.1,(aU l i).2.2.2.2.2.1,(aU l i).2.2.2.2.2.2.1,n)
def Ft (c:Cf) (id n:Int):Cf×Bool:=if (ff c&&oB c.2.1 id)=true then BM (c.1,Oq c.2.1 (bP c.2.1 id) n,c.2.2) else (zC,false)
theorem Qmv {d:Nat} {c:Cf} {id n:Int} (hl:c.2.1.length<=1000) (hf:c.2.2.1.length<=1000):Sk (d+10) c id n=some (Ft c id n):=by
 rw [e33,show d+9=d+1+8 by omega,Oj (by omega) (by omega),Q8]
 unfold Ft oB wX
 cases hg:ff c with
 | false=>rfl
 | true =>
  rw [Zl,Q5,show d+1+8=d+6+3 by omega,Ot (by omega),Q8,Zg]
  by_cases h0:bP c.2.1 id < 0
  .rw [Z5 h0,Q4,Q4,Z4 (by omega),Bool.false_and];rfl
  .obtain ⟨k,x,h1,h2,h3⟩:=wM (l:=c.2.1) (id:=id) (by omega)
   have hk:=(Z0 h2).1
   rw [Z4 h0,Q5,Z5 (show 0<=bP c.2.1 id by omega),Zg,h1,show d+6+3=d+5+4 by omega,Ou h2 (by omega),Q8,h3]
   cases hv:gV c.2.1 id with
   | false=>rfl
   | true =>
    rw [Zl,Q5,show d+5+4=d+7+2 by omega,Qeo hl hf,Q8,Q4,Q3,Qo hk,Q4,h2,Q8,if_pos rfl]
    show Q1 (On (d+7+2) (c.1,c.2.1.set k (x.1,x.2.1,x.2.2.1,x.2.2.2.1,x.2.2.2.2.1,x.2.2.2.2.2.1,x.2.2.2.2.2.2.1,n),c.2.2)) _=_
    rw [show d+7+2=d+9 by omega,Qmu (by simp only [List.length_set];omega) (by show c.2.2.1.length < _;omega),Q8]
    unfold Oq
    rw [Q3,jU h2]
theorem Qjm {d:Nat} {c:Cf} {id n:Int} (hs:c.1.size < 4000000) (hl:c.2.1.length<=1000) (hf:c.2.2.1.length<=1000):Sl (d+7) c id n=some (Ft c id n):=by
 rw [e25,show d+6=d+1+5 by omega,Ol hs (by omega),Q8]
 unfold Ft wY
 cases hg:ff c with
 | false=>rfl
 | true =>
  rw [Zl,Q5,show d+1+5=d+3+3 by omega,Ov hl,Q8,Zg]
  cases ht:oB c.2.1 id with
  | false=>rfl
  | true =>
   unfold oB at ht
   simp only [Z8,Zj] at ht
   obtain ⟨k,x,h1,h2,h3⟩:=wM ht.1
   have hk:=(Z0 h2).1
   rw [Zl,Q5,show d+3+3=d+5+1 by omega,Qvy hl hf,Q8,IL (by omega),Q8,h1,nn,Q4,Q3,Qo hk,Q4,h2,Q8,if_pos rfl]
   show Q1 (Oo (d+5+1) (c.1,c.2.1.set k (x.1,x.2.1,x.2.2.1,x.2.2.2.1,x.2.2.2.2.1,x.2.2.2.2.2.1,x.2.2.2.2.2.2.1,n),c.2.2)) _=_
   rw [show d+5+1=d+6 by omega,Qyp (c:=(c.1,c.2.1.set k _,c.2.2)) hs (by show c.2.2.1.length < _;omega),Q8]
   unfold Oq
   rw [Q3,jU h2]
theorem Sm {c:Cf} {id n:Int} (hs:c.1.size<=1048576) (hl:c.2.1.length<=1000) (hf:c.2.2.1.length<=1000):Si (Ft c id n):=by
 unfold Ft
 split
 .exact Qw1 hs (by unfold Oq;rw [List.length_set];exact hl) hf
 .exact Sj
def fK (r:Rg) (id n:Int):Rr:=if jV r=true then Dz r (Ft (eK r.1) id n) else II
theorem YV {r:Rg} {id n:Int} (hs:r.1.1.size<=1048576):wV (fK r id n).1/\(fK r id n).2.1.length<=1048576:=by
 unfold fK
 split
 .rename_i hr
  obtain ⟨n1,n2⟩:=Sn (Ow hr)
  exact Qyq hr (Sm hs (by omega) (by omega))
 .exact ⟨Fq,Nat.zero_le _⟩
theorem Qcs {d:Nat} {r:Rg} {id n:Int} (h:wT r.1) (hz:r.1.1.size<=1048576):g9 (d+31) r id n=some (fK r id n):=by
 rw [show d+31=d+28+3 by omega,e9,show d+28+1=d+1+28 by omega,YR h,Q8]
 unfold fK
 cases hg:jV r with
 | false=>rfl
 | true =>
  obtain ⟨n1,n2⟩:=Sn (Ow hg)
  have hN:=Sm (id:=id) (n:=n) (c:=eK r.1) hz (by omega) (by omega)
  rw [Zl,Q5,show d+1+28=d+3+26 by omega,Qt3 (Ow hg),Q8,show d+28=d+18+10 by omega,Qmv (by omega) (by omega),Q8,if_pos rfl,show d+3+26=d+29 by omega]
  exact Qvz h hg (by have:=hN.2.1;omega) (by have:=hN.2.2;omega)
theorem Qb4 {d:Nat} {r:Rg} {id n:Int} (h:wT r.1) (hz:r.1.1.size<=1048576):g7 (d+14) r id n=some (fK r id n):=by
 rw [e7,Qt0 h,Q8]
 unfold fK
 cases hg:jV r with
 | false=>rfl
 | true =>
  have O:=Oh hg
  have iE:=O.lk.fF
  have Fs:=O.lr.f16
  obtain ⟨n1,n2⟩:=Sn (Ow hg)
  have hs:(eK r.1).1.size < 4000000:=h.1
  have hN:=Sm (id:=id) (n:=n) (c:=eK r.1) hz (by omega) (by omega)
  rw [Zl,Q5,show d+13=d+11+2 by omega,YW (by omega) (by omega),Q8,show d+11+2=d+6+7 by omega,Qjm hs (by omega) (by omega),Q8,if_pos rfl,show d+6+7=d+13 by omega]
  exact Qw0 hg (by have:=hN.1;omega) (by have:=hN.2.2;omega)
abbrev tyC:Ty:=.pair (.int .i64) (.pair (.int .i64) (.pair (.int .i64) (.pair (.int .i64) (.pair (.int .i64) (.pair (.int .i64) (.pair (.int .i64) (.int .i64)))))))
abbrev tyF:Ty:=.pair (.int .i64) (.pair (.int .i64) (.pair (.int .i64) (.pair (.int .i64) (.int .i64))))
abbrev KC:Ty:=.pair .str (.pair (.sl tyC) (.pair (.sl (.int .i64)) (.pair (.sl (.int .i64)) (.pair (.sl (.int .i64)) (.pair (.sl (.int .i64)) (.pair (.sl tyF) (.pair (.sl (.int .i64)) (.int .i64))))))))
abbrev YX:Ty:=.pair (.sl (.int .i64)) (.sl (.int .i64))
theorem Qyr {x:Ld} (h:Wf KC x):So x:=by
 obtain ⟨h1,⟨h2,_⟩,⟨h3,_⟩,⟨h4,_⟩,⟨h5,_⟩,⟨h6,_⟩,⟨h7,_⟩,⟨h8,_⟩,_⟩:=h
 exact ⟨h1,h2,h3,h4,h5,h6,h7,h8⟩
def tkW (t:Tk):Prop:=t.1.length<=9223372036854775807/\t.2.length<=9223372036854775807
theorem Qys {t:Tk} (h:Wf YX t):tkW t:=by
 obtain ⟨⟨h2,_⟩,⟨h3,_⟩⟩:=h
 exact ⟨h2,h3⟩
abbrev Sp:Ty:=.pair (.int .i64) (.pair (.int .i64) (.pair (.int .i64) (.pair (.int .i64) (.pair (.int .i64) (.int .i64)))))
abbrev KD:Ty:=.pair KC (.pair YX (.pair (.sl (.sl Sp)) (.pair (.int .i64) (.int .i64))))
theorem Qyt {r:Rg} (h:Wf KD r):Sq r:=by
 obtain ⟨h1,h2,⟨h3,h4⟩,_⟩:=h
 exact ⟨Qyr h1,Qys h2,h3,fun q hq=>(h4 q hq).1⟩
theorem Qs7 {d:Nat} {r:Rg} {ii ai:Int} (hw:Sq r):g3 (d+32) r ii ai=some true:=by
 rw [show d+32=(d+29)+3 by omega,e3]
 obtain ⟨z,hz,hB⟩:=Qwq (d:=d+28) hw
 rw [show d+29+2=d+28+3 by omega,hz,Q8]
 by_cases h:z < 0
 .rw [Z5 h,Q4]
 obtain ⟨y0,y1,hl,cH⟩:=hB.resolve_left h
 rw [Z4 h,Q5]
 obtain ⟨l1,l2,l3,l4⟩:=id hl
 obtain ⟨z1,z2,z3,z4,z5,z6,z7,z8⟩:=id l1
 have hV:wV (fK r ii ai).1:=(YV z1).1
 obtain ⟨YY,hV2⟩:=hV.l
 have hen:=hV.en
 obtain ⟨v1,v2,v3,v4⟩:=id YY
 obtain ⟨u1,u2,u3,u4,u5,u6,u7,u8⟩:=id v1
 have hT:g8 (d+28+3) r=some r:=by rw [show d+28+3=d+27+4 by omega];exact Qwr hl
 have hE:g10 (d+28+3) r r=some true:=by rw [show d+28+3=d+27+4 by omega];exact YZ hl
 have hA:g9 (d+28+3) r ii ai=some (fK r ii ai):=by rw [show d+28+3=d+0+31 by omega];exact Qcs l1.sz z1
 have hS:g7 (d+28+3) r ii ai=some (fK r ii ai):=by rw [show d+28+3=d+17+14 by omega];exact Qb4 l1.sz z1
 have hQ:g10 (d+28+3) (fK r ii ai).1 (fK r ii ai).1=some true:=by rw [show d+28+3=d+27+4 by omega];exact YZ YY
 have hH:g14 (d+28+3) (KF (fK r ii ai).1) ((1:Nat):Int)=some ((wW (fK r ii ai).1:Nat):Int):=Qpx hV
 have hI:(fK r ii ai).2.1.length<=1048576:=(YV z1).2
 have hJ:g11 (d+28+3) (fK r ii ai).2.1 (fK r ii ai).2.1=some true:=by rw [show d+28+3=d+30+1 by omega];exact DA (by omega)
 have hM:g13 (d+28+3) (fK r ii ai).2.1 ((wW (fK r ii ai).1:Nat):Int)=some (((wW (fK r ii ai).1+(fK r ii ai).2.1.length:Nat):Int),jW (wW (fK r ii ai).1) (fK r ii ai).2.1.length):=by rw [show d+28+3=d+30+1 by omega];exact oX hI (by omega)
 have hG:g15 (d+28+3) (jW (wW (fK r ii ai).1) (fK r ii ai).2.1.length) ((wW (fK r ii ai).1:Nat):Int)=some ((wW (fK r ii ai).1+(fK r ii ai).2.1.length:Nat):Int):=by rw [show d+28+3=d+30+1 by omega];exact DB hI (by omega)
 rw [hT,Q8,hS,Q8,Q8,hA,Q8,hQ,Q8,Zl,Q5,hJ,Q8,Zl,Q5,beq_self_eq_true,Zl]
 unfold BN
 rw [Q5,show d+29+2=d+28+3 by omega,hT,Q8,hE,Q8,Zl,Q5]
 rw [show d+29=d+28+1 by omega,show (1:Int)=((1:Nat):Int) from rfl,Y3 z2 (by omega),Q8];simp only [];rw [oX z3 (by omega),Q8];simp only [];rw [oX z4 (by omega),Q8];simp only [];rw [oX z5 (by omega),Q8];simp only [];rw [oX z6 (by omega),Q8];simp only [];rw [Y4 z7 (by omega),Q8];simp only [];rw [oX z8 (by omega),Q8];simp only [];rw [oX l2 (by omega),Q8];simp only [];rw [oX l3 (by omega),Q8];simp only []
 have hL:=Om (k:=1) l1
 unfold BO at hL
 refine (Y5 (fun ag n i rs=>rfl) l4 cH (by omega)).trans ?_
 unfold jc
 rw [Z4 (by omega),Q5,show d+28+1+2=d+28+3 by omega,hQ,Q8,Zl,Q5,hJ,Q8,Zl,Q5,beq_self_eq_true,Zl]
 unfold wZ
 rw [Q5]
 rw [show d+29=d+28+1 by omega,show (1:Int)=((1:Nat):Int) from rfl,Y3 u2 (by omega),Q8];simp only [];rw [oX u3 (by omega),Q8];simp only [];rw [oX u4 (by omega),Q8];simp only [];rw [oX u5 (by omega),Q8];simp only [];rw [oX u6 (by omega),Q8];simp only [];rw [Y4 u7 (by omega),Q8];simp only [];rw [oX u8 (by omega),Q8];simp only [];rw [oX v2 (by omega),Q8];simp only [];rw [oX v3 (by omega),Q8];simp only []
 have hL2:=Om (k:=1) v1
 unfold BO at hL2
 refine (Y5 (fun ag n i rs=>rfl) v4 (by omega) (by omega)).trans ?_
 unfold jd
 rw [show d+28+1+2=d+28+3 by omega,show (1:Int)=((1:Nat):Int) from rfl]
 show Q1 (g13 (d+28+3) (fK r ii ai).2.1 ((wW (fK r ii ai).1:Nat):Int)) _=_
 rw [hM,Q8]
 simp only []
 show Q1 (g14 (d+28+3) (KF (fK r ii ai).1) ((1:Nat):Int)) _=_
 rw [hH,Q8,Z4 (by omega),Q5,hG,Q8,Z4 (by omega),Q5]
 rw [bne_self_eq_false,Q5,hT,Q8,hA,Q8,hQ,Q8,Zl,Q5,hJ,Q8,Zl,Q5,beq_self_eq_true,Zl]
 unfold BP
 rw [Q5]
 show Q1 (g14 (d+28+3) (KF (fK r ii ai).1) ((1:Nat):Int)) _=_
 rw [hH,Q8,Z4 (by omega),Q5,hG,Q8,Z4 (by omega),Q5]
 rw [bne_self_eq_false,Q5]
def tysLaw:List Ty:=[KD,.int .i64,.int .i64]
theorem lawAny:Y6 Tryz.prog Qb (32) 3 tysLaw :=
 ⟨rfl,rfl,rfl,fun a h=>by
  obtain ⟨r,ii,ai⟩:=a
  exact ⟨true,Qs7 (d:=0) (Qyt (h ⟨_,r⟩ (List.Mem.head _))),rfl⟩⟩
end Go.Proofs.YtcoimfbmgjhcjabGreatDoor
