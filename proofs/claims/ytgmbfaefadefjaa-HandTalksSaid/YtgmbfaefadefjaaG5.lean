/-
  Texts of this claim, part 5: Sxq, Tds, Frc, Bts, ViM, VsA, Sxy, VlA, PmA, VsB, VsC, PmB, PmC, VwA, VwB. No condition of its own.
-/
import Derived.Test.YtgmbfaefadefjaaG4
namespace Go.Proofs.Ytgmbfaefadefjaa
set_option linter.unusedVariables false
section
namespace Sx
open Go.RowKit

section
variable {C : Cx}
def Fin (C:Cx) (v:SV) (h:List (List Seg)) (x:SV) (hs:List (List Seg)):Prop:=∃ q,Ent C q ⟨[v],h⟩ ⟨[x],hs⟩
theorem Fin.ok {v x:SV} {h hs:List (List Seg)} (f:Fin C v h x hs) {r:Rho} {w:World} {u:Value} (hu:v.Is r u) (ok:HeapOk C h r w):∃ r',x.Is r' u∧HeapOk C hs r' w:=by
 obtain ⟨q,e⟩:=f
 have ok1:Ok C ⟨[v],h⟩ r { tmps:=#[u],defers:=[] } w:=⟨ok,rfl,fun d y e=>by
  cases d with
  | zero=>simp at e; subst e; exact hu
  | succ d=>simp at e,rfl⟩
 obtain ⟨r',ok2⟩:=e.ok ok1
 exact ⟨r',ok2.slots 0 x rfl,ok2.heap⟩
end
abbrev cx0 (P:Program) (T:List (Nat × TD)) (w:World) (r0:Rho) (n:Nat) (h0:List (List Seg)):Cx:=⟨P,T,w,(r0.drop n).map (·.1),r0,n,fun i=>flat (getH h0 i)≠[],fun B=>∃ (i:Nat) (W:World) (ms:List Nat),h0[i]?=some [.past W ms]∧B<W.heap.size∧B ∉ ms⟩
def FnR (P:Program) (T:List (Nat × TD)) (f:FuncId) (n:Nat) (h0:List (List Seg)) (args:List SA) (raw:World→Prop) (Res:SV→List (List Seg)→Prop):Prop :=
 ∀ (w:World) (r0:Rho) (vs:List Value),HeapOk (cx0 P T w r0 n h0) h0 r0 w→IsAs r0 args vs→raw w→Calls P f vs.toArray w fun e w' =>
  ∃ v x hs r',e=.returned v∧SV.Is r' x v∧HeapOk (cx0 P T w r0 n h0) hs r' w'∧Res x hs
abbrev Fn (P:Program) (T:List (Nat × TD)) (f:FuncId) (h0:List (List Seg)) (args:List SA) (raw:World→Prop) (Res:SV→List (List Seg)→Prop):Prop:=FnR P T f 0 h0 args raw Res
def anys:Nat→List SV
 | 0=>[]
 | n+1=>.any::anys n
theorem anys_len:∀ n,(anys n).length=n
 | 0=>rfl
 | n+1=>by simp [anys,anys_len n]
theorem anys_get:∀ (n d:Nat) (x:SV),(anys n)[d]?=some x→x=.any
 | 0,_,_,e=>by simp [anys] at e
 | n+1,0,_,e=>by simp [anys] at e; exact e.symm
 | n+1,d+1,x,e=>anys_get n d x (by simpa [anys] using e)
theorem fn_of_body {P:Program} {T:List (Nat × TD)} (hT:AllT P T) (hm:P.follows .mixedOrders=true) {f:FuncId} {fn:Func} {c:Code} (hf:P.funcs[f]?=some fn) (hb:fn.body=some c) {n:Nat} {h0:List (List Seg)} {args:List SA} {raw:World→Prop} {Res:SV→List (List Seg)→Prop}
  {t:List SV} (ht:t=args.map SV.a++anys (fn.ntmps-args.length))
  (h:∀ (w:World) (r0:Rho),r0.length=h0.length→raw w→Body (cx0 P T w r0 n h0) fn c ⟨t,h0⟩ fun v h'=>∃ x hs,Fin (cx0 P T w r0 n h0) v h' x hs∧Res x hs):FnR P T f n h0 args raw Res:=by
 intro w r0 vs ok ha hraw
 subst ht
 have hlen:vs.toArray.size=args.length:=by rw [ha.1]; simp
 refine calls_of_body (C:=cx0 P T w r0 n h0) hT hm hf hb (s:=⟨args.map SV.a++anys (fn.ntmps-args.length),h0⟩) (r:=r0) ⟨ok,?_,fun d x e=>?_,rfl⟩ (h w r0 ok.len hraw) ?_
 ·simp [anys_len,ha.1]
 ·by_cases hd:d<args.length
  ·rw [List.getElem?_append_left (by simpa using hd),List.getElem?_map] at e
   obtain ⟨y,hy,rfl⟩:=Option.map_eq_some_iff.1 e
   obtain ⟨u,hu,hi⟩:=ha.2 d y hy
   have:(vs.toArray++Array.replicate (fn.ntmps-vs.toArray.size) undef).getD d undef=u:=by
    rw [Array.getD_eq_getD_getElem?,Array.getElem?_append_left (by rw [hlen]; exact hd)]
    simp [hu]
   rw [this]
   exact hi
  ·rw [List.getElem?_append_right (by simpa using Nat.le_of_not_lt hd)] at e
   rw [anys_get _ _ _ e]
   trivial
 ·rintro v y h' r' w' ⟨x,hs,hf,hr⟩ hy hok
  obtain ⟨r'',hx,hok'⟩:=hf.ok hy hok
  exact ⟨v,x,hs,r'',rfl,hx,hok',hr⟩
/-! Back at the caller's. -/
def bk (N:Nat):List Nat→Nat→Nat
 | [],j=>N+j
 | x::_,0=>x
 | _::q,j+1=>bk N q j
def SC.mp (g:Nat→Nat):SC→SC
 | .p i b o=>.p (g i) b o
 | .sl i b o n c=>.sl (g i) b o n c
 | .clo f i b o=>.clo f (g i) b o
 | .cap f i b o=>.cap f (g i) b o
 | .cap2 f i b o j c d=>.cap2 f (g i) b o (g j) c d
 | .sn z i b o n c=>.sn z (g i) b o n c
 | .mh i=>.mh (g i)
 | .ih i=>.ih (g i)
 | x=>x
def Seg.mp (g:Nat→Nat):Seg→Seg
 | .one x=>.one (x.mp g)
 | .row n f=>.row n (fun j=>(f j).mp g)
 | .obj m=>.obj m
 | .past w ms=>.past w ms
def mpL (g:Nat→Nat):List Seg→List Seg
 | []=>[]
 | x::r=>x.mp g::mpL g r
def SA.mp (g:Nat→Nat):SA→SA
 | .c x=>.c (x.mp g)
 | .agg l=>.agg (mpL g l)
def SV.mp (g:Nat→Nat):SV→SV
 | .any=>.any
 | .a x=>.a (x.mp g)
 | .tup l=>.tup (l.map (SA.mp g))
theorem flat_mp (g:Nat→Nat):∀ l:List Seg,flat (mpL g l)=(flat l).map (SC.mp g)
 | []=>rfl
 | .one x::r=>by simp [mpL,Seg.mp,flat,flat_mp g r]
 | .row n f::r=>by simp [mpL,Seg.mp,flat,flat_mp g r,Function.comp_def]
 | .obj _::r=>by simp [mpL,Seg.mp,flat,flat_mp g r]
 | .past _ _::r=>by simp [mpL,Seg.mp,flat,flat_mp g r]
theorem mpL_obj {g:Nat→Nat} {l:List Seg} {m:MapD} (h:[.obj m]=mpL g l):l=[.obj m]:=by
 cases l with
 | nil=>cases h
 | cons x r =>
  simp only [mpL,List.cons.injEq] at h
  have hr:r=[]:=by cases r <;> first|rfl|cases h.2
  subst hr
  cases x <;> simp [Seg.mp] at h
  obtain ⟨rfl,_⟩:=h; rfl
theorem mpL_past {g:Nat→Nat} {l:List Seg} {W:World} {ms:List Nat} (h:[.past W ms]=mpL g l):l=[.past W ms]:=by
 cases l with
 | nil=>cases h
 | cons x r =>
  simp only [mpL,List.cons.injEq] at h
  have hr:r=[]:=by cases r <;> first|rfl|cases h.2
  subst hr
  cases x <;> simp [Seg.mp] at h
  obtain ⟨⟨rfl,rfl⟩,_⟩:=h; rfl
section
variable {g : Nat → Nat} {r' R : Rho}
theorem SC.Is.mp (hg:∀ (i:Nat) (x:Nat × Nat),r'[i]?=some x→R[g i]?=some x) {x:SC} {v:Value} (h:x.Is r' v):(x.mp g).Is R v:=by
 cases x <;> first
  | exact h
  | (obtain ⟨B,f,e,rfl⟩:=h; exact ⟨B,f,hg _ _ e,rfl⟩)
  | (obtain ⟨B,f,e,B',f',e',rfl⟩:=h; exact ⟨B,f,hg _ _ e,B',f',hg _ _ e',rfl⟩)
  | (rcases h with ⟨h1,h2⟩|⟨h1,B,f,e,h2⟩|h; exact .inl ⟨h1,h2⟩; exact .inr (.inl ⟨h1,B,f,hg _ _ e,h2⟩); exact .inr (.inr h))
theorem SA.Is.mp (hg:∀ (i:Nat) (x:Nat × Nat),r'[i]?=some x→R[g i]?=some x) {x:SA} {v:Value} (h:x.Is r' v):(x.mp g).Is R v:=by
 cases x with
 | c x=>exact SC.Is.mp hg (x:=x) h
 | agg l =>
  obtain ⟨vs,e,h1,h2⟩:=h
  refine ⟨vs,e,by rw [flat_mp]; simpa using h1,fun j y e'=>?_⟩
  rw [flat_mp,List.getElem?_map,Option.map_eq_some_iff] at e'
  obtain ⟨z,hz,rfl⟩:=e'
  obtain ⟨u,e1,e2⟩:=h2 j z hz
  exact ⟨u,e1,e2.mp hg⟩
theorem SV.Is.mp (hg:∀ (i:Nat) (x:Nat × Nat),r'[i]?=some x→R[g i]?=some x) {x:SV} {v:Value} (h:x.Is r' v):(x.mp g).Is R v:=by
 cases x with
 | any=>trivial
 | a x=>exact SA.Is.mp hg (x:=x) h
 | tup l =>
  obtain ⟨vs,e,h1,h2⟩:=h
  refine ⟨vs,e,by simpa using h1,fun j y e'=>?_⟩
  rw [List.getElem?_map,Option.map_eq_some_iff] at e'
  obtain ⟨z,hz,rfl⟩:=e'
  obtain ⟨u,e1,e2⟩:=h2 j z hz
  exact ⟨u,e1,e2.mp hg⟩
theorem At.mp (hg:∀ (i:Nat) (x:Nat × Nat),r'[i]?=some x→R[g i]?=some x) {w:World} {B off:Nat} {l:List Seg} {z:Bool} (h:At z r' w B off (flat l)):At z R w B off (flat (mpL g l)):=by
 intro j y e
 rw [flat_mp,List.getElem?_map,Option.map_eq_some_iff] at e
 obtain ⟨z,hz,rfl⟩:=e
 obtain ⟨v,e1,e2,e3⟩:=h j z hz
 exact ⟨v,e1,e2.mp hg,e3⟩
end
def back (g:Nat→Nat):List Nat→List (List Seg)→List (List Seg)→List (List Seg)
 | [],hs,h=>h++hs.map (mpL g)
 | i::q,c::hs,h=>back g q hs (h.set i (mpL g c))
 | _::_,[],h=>h
theorem back_get (g:Nat→Nat):∀ (q:List Nat) (hs h:List (List Seg)),q.Nodup→(∀ i∈q,i<h.length)→q.length≤hs.length →
  (back g q hs h).length=h.length+(hs.length-q.length) ∧
  (∀ (k i:Nat),q[k]?=some i→(back g q hs h)[i]?=(hs[k]?).map (mpL g)) ∧
  (∀ (j:Nat),j<h.length→j ∉ q→(back g q hs h)[j]?=h[j]?) ∧
  (∀ (j:Nat),(back g q hs h)[h.length+j]?=(hs[q.length+j]?).map (mpL g))
 | [],hs,h,_,_,_=>⟨by simp [back],fun k i e=>by simp at e,fun j hj _=>by simp [back,List.getElem?_append_left hj],fun j=>by simp only [back]; rw [List.getElem?_append_right (by omega),List.getElem?_map]; simp⟩
 | i::q,c::hs,h,hn,hq,hl=>by
  obtain ⟨h1,h2⟩:=List.nodup_cons.1 hn
  obtain ⟨b1,b2,b3,b4⟩:=back_get g q hs (h.set i (mpL g c)) h2 (fun j hj=>by simpa using hq j (by simp [hj])) (by simpa using hl)
  simp only [List.length_set] at b1 b3 b4
  refine ⟨by simp only [back,b1,List.length_cons]; omega,fun k j e=>?_,fun j hj hnj=>?_,fun j=>?_⟩
  ·cases k with
   | zero =>
    simp at e
    subst e
    simp only [back,List.getElem?_cons_zero,Option.map_some]
    rw [b3 i (hq i (by simp)) h1]
    simp [hq i (by simp)]
   | succ k=>simpa [back] using b2 k j (by simpa using e)
  ·simp only [List.mem_cons,not_or] at hnj
   simp only [back]
   rw [b3 j hj hnj.2,List.getElem?_set_ne (Ne.symm hnj.1)]
  ·simp only [back,b4,List.length_cons]
   congr 1
   rw [show q.length+1+j=(q.length+j)+1 by omega]; rfl
 | _::_,[],_,_,_,hl=>by simp at hl
theorem bk_get (N:Nat):∀ (q:List Nat) (k:Nat),(∀ i,q[k]?=some i→bk N q k=i)∧(q.length≤k→bk N q k=N+(k-q.length))
 | [],k=>⟨fun i e=>by simp at e,fun _=>by simp [bk]⟩
 | x::q,0=>⟨fun i e=>by simp at e; simp [bk,e],fun h=>by simp at h⟩
 | x::q,k+1=>⟨fun i e=>by simpa [bk] using (bk_get N q k).1 i (by simpa using e),fun h=>by simp only [bk]; rw [(bk_get N q k).2 (by simpa using h)]; simp⟩
theorem HeapOk.back {C:Cx} {h hs:List (List Seg)} {r r':Rho} {w w':World} (ok:HeapOk C h r w) {q:List Nat} {n:Nat} (hnq:n≤q.length) (hn:(q.drop n).Nodup) (hq:∀ i∈q,i<h.length) (hne:∀ i∈q.drop n,getH h i≠[]) (hwr:∀ i∈q.drop n,C.ro≤i) {lv sf:Nat→Prop} (hsf:∀ B,sf B→∃ (i:Nat) (W:World) (ms:List Nat),h[i]?=some [.past W ms]∧B<W.heap.size∧B ∉ ms)
  (ok':HeapOk ⟨C.P,C.T,w,((rn q r).drop n).map (·.1),rn q r,n,lv,sf⟩ hs r' w') :
  let R:=r++r'.drop q.length
  let g:=bk h.length q
  HeapOk C (Sx.back g (q.drop n) (hs.drop n) h) R w'∧RLe r R∧(∀ (i:Nat) (x:Nat × Nat),r'[i]?=some x→R[g i]?=some x)∧(q.drop n=[]→Ext [] w w') ∧
  (∀ (k:Nat) (w1:World) (ms:List Nat),hs[k]?=some [.past w1 ms]→Ext ms w1 w'∧(∀ B,B<w.heap.size→B<w1.heap.size→B ∉ ms→∃ (i:Nat) (W:World) (ms:List Nat),h[i]?=some [.past W ms]∧B<W.heap.size∧B ∉ ms) ∧
   ∀ (j B f:Nat),C.ro≤j→R[j]?=some (B,f)→B<w1.heap.size→B∈ms) ∧
  (∀ (i:Nat) (W:World) (ms:List Nat),i ∉ q.drop n→h[i]?=some [.past W ms]→(Sx.back g (q.drop n) (hs.drop n) h)[i]?=some [.past W ms]) ∧
  (∀ (i:Nat) (W:World) (ms:List Nat),(Sx.back g (q.drop n) (hs.drop n) h)[i]?=some [.past W ms]→(h[i]?=some [.past W ms])∨∃ k:Nat,hs[k]?=some [.past W ms]):=by
 intro R g
 have hlen:r.length=h.length:=ok.len
 have hlen':r'.length=hs.length:=ok'.len
 have hqr:∀ i∈q,i<r.length:=fun i hi=>by rw [hlen]; exact hq i hi
 have hqs:∀ i∈q.drop n,i∈q:=fun i hi=>List.mem_of_mem_drop hi
 have hpre:∀ (k j:Nat),q[k]?=some j→r'[k]?=r[j]?:=fun k j e=>by
  have hj:=hqr j (List.mem_of_getElem? e)
  have e1:=rn_get hqr e
  rw [List.getElem?_eq_getElem hj] at e1 ⊢
  exact ok'.agree k _ e1
 have hql:q.length≤r'.length:=by
  rcases Nat.lt_or_ge r'.length q.length with hlt|h
  ·have e1:=hpre r'.length q[r'.length] (List.getElem?_eq_getElem hlt)
   rw [List.getElem?_eq_none (Nat.le_refl _),List.getElem?_eq_getElem (hqr _ (List.getElem_mem _))] at e1
   cases e1
  ·exact h
 obtain ⟨b1,b2,b3,b4⟩:=back_get g (q.drop n) (hs.drop n) h hn (fun i hi=>hq i (hqs i hi)) (by simp only [List.length_drop]; omega)
 have hR1:∀ j,j<r.length→R[j]?=r[j]?:=fun j hj=>List.getElem?_append_left hj
 have hR2:∀ j,R[r.length+j]?=r'[q.length+j]?:=fun j=>by
  rw [List.getElem?_append_right (by omega),List.getElem?_drop]; congr 1; omega
 have hg:∀ (i:Nat) (x:Nat × Nat),r'[i]?=some x→R[g i]?=some x:=by
  intro i x e
  by_cases hi:i<q.length
  ·have e1:=List.getElem?_eq_getElem hi
   rw [show g i=q[i] from (bk_get h.length q i).1 _ e1,hR1 _ (hqr _ (List.getElem_mem _)),← hpre i _ e1]
   exact e
  ·rw [show g i=h.length+(i-q.length) from (bk_get h.length q i).2 (by omega),← hlen,hR2,show q.length+(i-q.length)=i by omega]
   exact e
 have hm':∀ B,B∈((rn q r).drop n).map (·.1)→∃ i,i∈q.drop n∧∃ f,r[i]?=some (B,f):=by
  intro B hB
  obtain ⟨k,f,hk,e⟩:=mem_drop.1 hB
  cases hqk:q[k]? with
  | none=>simp [rn,hqk] at e
  | some j =>
   rw [rn_get hqr hqk] at e
   exact ⟨j,List.mem_of_getElem? (i:=k-n) (by rw [List.getElem?_drop,show n+(k-n)=k by omega]; exact hqk),f,e⟩
 have hext:Ext C.m C.w0 w':=ok.ext.trans2 ok'.ext (fun B hB=>by
  obtain ⟨i,hi,f,e⟩:=hm' B hB
  exact ok.own i B f (hwr i hi) e)
 have cases_:∀ (j B f:Nat) (c:List Seg),(Sx.back g (q.drop n) (hs.drop n) h)[j]?=some c→R[j]?=some (B,f)→(j<h.length∧j ∉ q.drop n∧h[j]?=some c∧r[j]?=some (B,f))∨(∃ k c',n≤k∧g k=j∧hs[k]?=some c'∧c=mpL g c'∧r'[k]?=some (B,f)):=by
  intro j B f c hc hr
  by_cases hj:j<h.length
  ·by_cases hjq:j∈q.drop n
   ·obtain ⟨k,hk,rfl⟩:=List.mem_iff_getElem.1 hjq
    have e1:=List.getElem?_eq_getElem hk
    rw [b2 k _ e1,Option.map_eq_some_iff] at hc
    obtain ⟨c',hc',rfl⟩:=hc
    rw [List.getElem?_drop] at hc' e1
    rw [hR1 _ (hqr _ (hqs _ hjq)),← hpre (n+k) _ e1] at hr
    exact .inr ⟨n+k,c',by omega,(bk_get h.length q (n+k)).1 _ e1,hc',rfl,hr⟩
   ·rw [b3 j hj hjq] at hc
    rw [hR1 j (by omega)] at hr
    exact .inl ⟨hj,hjq,hc,hr⟩
  ·obtain ⟨d,rfl⟩:∃ d,j=h.length+d:=⟨j-h.length,by omega⟩
   rw [b4,Option.map_eq_some_iff] at hc
   obtain ⟨c',hc',rfl⟩:=hc
   rw [List.getElem?_drop,List.length_drop,show n+(q.length-n+d)=q.length+d by omega] at hc'
   rw [← hlen,hR2] at hr
   exact .inr ⟨q.length+d,c',by omega,by rw [show g (q.length+d)=h.length+(q.length+d-q.length) from (bk_get h.length q _).2 (by omega)]; omega,hc',rfl,hr⟩
 have where_:∀ (k B f:Nat),n≤k→r'[k]?=some (B,f)→(∃ i,i∈q.drop n∧∃ f',r[i]?=some (B,f'))∨w.heap.size≤B:=by
  intro k B f hk e
  rcases ok'.own k B f hk e with hm|hm
  ·exact .inl (hm' B hm)
  ·exact .inr hm
 have hhi:∀ i∈q.drop n,h[i]?=some (getH h i):=fun i hi=>by rw [getH_eq,List.getElem?_eq_getElem (hq i (hqs i hi))]; rfl
 have old:∀ (j B f:Nat) (c:List Seg),j ∉ q.drop n→h[j]?=some c→r[j]?=some (B,f)→flat c≠[]→B ∉ ((rn q r).drop n).map (·.1):=by
  intro j B f c hjq hc hr hf hm
  obtain ⟨i,hi,f',e⟩:=hm' B hm
  exact hf (ok.sep (fun e=>hjq (by rw [e]; exact hi)) (hwr i hi) hc (hhi i hi) hr e (hne i hi))
 have old2:∀ (j B f:Nat) (c:List Seg),C.ro≤j→j ∉ q.drop n→h[j]?=some c→r[j]?=some (B,f)→c=[]∨((∀ i∈q.drop n,∀ f',r[i]?≠some (B,f'))∧B<w.heap.size):=by
  intro j B f c ho hjq hc hr
  by_cases hex:∃ i,i∈q.drop n∧∃ f',r[i]?=some (B,f')
  ·obtain ⟨i,hi,f',hf'⟩:=hex
   rcases ok.apart j i B f f' c _ (fun e=>hjq (by rw [e]; exact hi)) ho (hwr i hi) hc (hhi i hi) hr hf' with h1|h1
   ·exact .inl h1
   ·exact absurd h1 (hne i hi)
  ·exact .inr ⟨fun i hi f' e=>hex ⟨i,hi,f',e⟩,ok.lt j B f ho hr⟩
 have hrl:=ok.rlen
 have hrl2:=ok.rol
 have two:∀ j:Nat,j<r.length∨∃ d,j=r.length+d:=fun j=>by
  rcases Nat.lt_or_ge j r.length with h|h
  ·exact .inl h
  ·exact .inr ⟨j-r.length,by omega⟩
 have pold:∀ (i:Nat) (w1:World) (ms:List Nat),h[i]?=some [.past w1 ms]→Ext ms w1 w'∧(∀ B,B<C.w0.heap.size→B<w1.heap.size→B ∉ ms→C.safe B)∧∀ (j B f:Nat),C.ro≤j→R[j]?=some (B,f)→B<w1.heap.size→B∈ms:=by
  intro i w1 ms hi
  obtain ⟨p1,p2,p3⟩:=ok.past i w1 ms hi
  refine ⟨p1.trans2 ok'.ext fun B hB=>?_,p2,fun j B f ho e hlt=>?_⟩
  ·obtain ⟨i2,hi2,f,e⟩:=hm' B hB
   rcases Nat.lt_or_ge B w1.heap.size with hlt|hge
   ·exact .inl (p3 i2 B f (hwr i2 hi2) e hlt)
   ·exact .inr hge
  ·rcases two j with hj|⟨d,rfl⟩
   ·rw [hR1 j hj] at e
    exact p3 j B f ho e hlt
   ·rw [hR2] at e
    rcases where_ _ B f (by omega) e with ⟨i2,hi2,f',e2⟩|hge
    ·exact p3 i2 B f' (hwr i2 hi2) e2 hlt
    ·have:=p1.size
     omega
 have pnew:∀ (k:Nat) (w1:World) (ms:List Nat),hs[k]?=some [.past w1 ms]→Ext ms w1 w'∧(∀ B,B<w.heap.size→B<w1.heap.size→B ∉ ms→∃ (i:Nat) (W:World) (ms:List Nat),h[i]?=some [.past W ms]∧B<W.heap.size∧B ∉ ms) ∧
   ∀ (j B f:Nat),C.ro≤j→R[j]?=some (B,f)→B<w1.heap.size→B∈ms:=by
  intro k w1 ms hk
  obtain ⟨p1,p2,p3⟩:=ok'.past k w1 ms hk
  refine ⟨p1,fun B h1 h2 h3=>hsf B (p2 B h1 h2 h3),fun j B f ho e hlt=>?_⟩
  rcases two j with hj|⟨d,rfl⟩
  ·rw [hR1 j hj] at e
   apply Classical.byContradiction
   intro hn
   obtain ⟨i2,W,ms2,g1,g2,g3⟩:=hsf B (p2 B (ok.lt j B f ho e) hlt hn)
   exact g3 ((ok.past i2 W ms2 g1).2.2 j B f ho e g2)
  ·rw [hR2] at e
   exact p3 _ B f (show n≤q.length+d by omega) e hlt
 have rows:∀ (j:Nat) (c:List Seg),(Sx.back g (q.drop n) (hs.drop n) h)[j]?=some c→∃ B f,R[j]?=some (B,f):=by
  intro j c e
  have hj:j<R.length:=by
   have:j<(Sx.back g (q.drop n) (hs.drop n) h).length:=by
    rcases Nat.lt_or_ge j (Sx.back g (q.drop n) (hs.drop n) h).length with h|h
    ·exact h
    ·rw [List.getElem?_eq_none h] at e; cases e
   rw [b1] at this
   simp only [R,List.length_append,List.length_drop,hlen,hlen'] at this ⊢
   omega
  exact ⟨R[j].1,R[j].2,List.getElem?_eq_getElem hj⟩
 have which:∀ (i:Nat) (W:World) (ms:List Nat),(Sx.back g (q.drop n) (hs.drop n) h)[i]?=some [.past W ms]→(h[i]?=some [.past W ms])∨∃ k:Nat,hs[k]?=some [.past W ms]:=by
  intro i W ms hi
  obtain ⟨B,f,hr⟩:=rows i _ hi
  rcases cases_ i B f _ hi hr with ⟨_,_,h3,_⟩|⟨k,c',_,_,h3,h4,_⟩
  ·exact .inl h3
  ·exact .inr ⟨k,by rw [h3,mpL_past h4]⟩
 refine ⟨⟨hext,fun i x e=>?_,ok.rol,?_,fun j c B f hc hr=>?_,fun j B f ho hr=>?_,fun j B f ho hr=>?_,fun j B f ho hl hr=>?_,fun j c ho hl hc=>?_,fun i j B f f' c c' hij o1 o2 hi hj hri hrj=>?_,fun j m B f ho hc hr=>?_,fun i w1 ms hi=>?_⟩,fun i x e=>?_,hg,fun e=>?_,pnew,fun i W ms hn' hi=>?_,which⟩
 ·have e1:=ok.agree i x e
  have hi:i<r.length:=by
   rcases Nat.lt_or_ge i r.length with h|h
   ·exact h
   ·rw [List.getElem?_eq_none h] at e1; cases e1
  rw [hR1 i hi]; exact e1
 ·rw [b1]; simp [R,hlen]; omega
 ·rcases cases_ j B f c hc hr with ⟨h1,h2,h3,h4⟩|⟨k,c',hkn,hk,h3,rfl,h4⟩
  ·refine ((ok.chunks j c B f h3 h4).mono ?_).extm ok'.ext (fun hl=>old j B f c h2 h3 h4 hl)
   intro i x e
   have hi:i<r.length:=by
    rcases Nat.lt_or_ge i r.length with h|h
    ·exact h
    ·rw [List.getElem?_eq_none h] at e; cases e
   rw [hR1 i hi]; exact e
  ·intro d x e
   obtain ⟨v,e1,e2,e3⟩:=(ok'.chunks k c' B f h3 h4).mp hg d x e
   exact ⟨v,e1,e2,fun _=>e3 (le_ble hkn)⟩
 ·have hj:j<r.length∨∃ d,j=r.length+d:=by
   rcases Nat.lt_or_ge j r.length with h|h
   ·exact .inl h
   ·exact .inr ⟨j-r.length,by omega⟩
  rcases hj with hj|⟨d,rfl⟩
  ·rw [hR1 j hj] at hr; exact Nat.lt_of_lt_of_le (ok.lt j B f ho hr) ok'.ext.size
  ·rw [hR2] at hr; exact ok'.lt _ B f (show n≤q.length+d by omega) hr
 ·have hj:j<r.length∨∃ d,j=r.length+d:=by
   rcases Nat.lt_or_ge j r.length with h|h
   ·exact .inl h
   ·exact .inr ⟨j-r.length,by omega⟩
  rcases hj with hj|⟨d,rfl⟩
  ·rw [hR1 j hj] at hr; exact ok.own j B f ho hr
  ·rw [hR2] at hr
   rcases where_ _ B f (by omega) hr with ⟨i,hi,f',e⟩|h
   ·exact ok.own i B f' (hwr i hi) e
   ·exact .inr (Nat.le_trans ok.ext.size h)
 ·rw [hR1 j (by omega)] at hr
  exact ok.ros j B f ho hl hr
 ·have hjq:j ∉ q.drop n:=fun hc'=>by have:=hwr j hc'; omega
  rw [b3 j (by omega) hjq] at hc
  exact ok.dead j c ho hl hc
 ·rcases cases_ i B f c hi hri with ⟨h1,h2,h3,h4⟩|⟨k,d,hkn,hk,h3,rfl,h4⟩ <;> rcases cases_ j B f' c' hj hrj with ⟨g1,g2,g3,g4⟩|⟨l,d',hln,hl,g3,rfl,g4⟩
  ·exact ok.apart i j B f f' c c' hij o1 o2 h3 g3 h4 g4
  ·rcases old2 i B f c o1 h2 h3 h4 with h5|⟨h5,h6⟩
   ·exact .inl h5
   ·rcases where_ _ B f' hln g4 with ⟨i',hi',f'',e⟩|h
    ·exact absurd e (h5 i' hi' f'')
    ·omega
  ·rcases old2 j B f' c' o2 g2 g3 g4 with h5|⟨h5,h6⟩
   ·exact .inr h5
   ·rcases where_ _ B f hkn h4 with ⟨i',hi',f'',e⟩|h
    ·exact absurd e (h5 i' hi' f'')
    ·omega
  ·rcases ok'.apart k l B f f' d d' (fun e=>hij (by rw [← hk,← hl,e])) hkn hln h3 g3 h4 g4 with h|h
   ·left; rw [h]; rfl
   ·right; rw [h]; rfl
 ·rcases cases_ j B f _ hc hr with ⟨h1,h2,h3,h4⟩|⟨k,c',hkn,hk,h3,h4,h5⟩
  ·refine (ok.maps j m B f ho h3 h4).block (ok'.ext.block B (ok.lt j B f ho h4) fun hB=>?_)
   rcases old2 j B f _ ho h2 h3 h4 with h5|⟨h5,_⟩
   ·cases h5
   ·obtain ⟨i2,hi2,f2,e2⟩:=hm' B hB
    exact h5 i2 hi2 f2 e2
  ·exact ok'.maps k m B f hkn (by rw [h3,mpL_obj h4]) h5
 ·rcases which i w1 ms hi with h1|⟨k,h1⟩
  ·exact pold i w1 ms h1
  ·obtain ⟨p1,p2,p3⟩:=pnew k w1 ms h1
   refine ⟨p1,fun B h2 h3 h4=>?_,p3⟩
   obtain ⟨i2,W,ms2,g1,g2,g3⟩:=p2 B (Nat.lt_of_lt_of_le h2 ok.ext.size) h3 h4
   exact (ok.past i2 W ms2 g1).2.1 B h2 g2 g3
 ·have hi:i<r.length:=by
   rcases Nat.lt_or_ge i r.length with h|h
   ·exact h
   ·rw [List.getElem?_eq_none h] at e; cases e
  rw [hR1 i hi]; exact e
 ·refine ok'.ext.mono fun B hB=>?_
  obtain ⟨i,hi,_⟩:=hm' B hB
  rw [e] at hi
  cases hi
 ·have hil:i<h.length:=by
   rcases Nat.lt_or_ge i h.length with h1|h1
   ·exact h1
   ·rw [List.getElem?_eq_none h1] at hi; cases hi
  rw [b3 i hil hn']; exact hi
/-! Calls. -/
def apartB (h:List (List Seg)) (q:List Nat):List Nat→Bool
 | []=>true
 | i::l=>(match Nat.blt i h.length with
  | true=>!(memB i q) && (match getH h i with
   | []=>false
   | _=>true)
  | false=>true) && apartB h q l
def keepB (k:Keep) (q:List Nat) (h:List (List Seg)):Bool:=match k with
 | .free=>true
 | .all=>q.isEmpty
 | .only l=>apartB h q l
def allNe (h:List (List Seg)):List Nat→Bool
 | []=>true
 | i::q=>match stirs (getH h i) with
  | false=>false
  | true=>allNe h q
theorem allNe_spec {h:List (List Seg)}:∀ {q:List Nat},allNe h q=true→∀ i∈q,stirs (getH h i)=true
 | [],_,i,hi=>by cases hi
 | x::q,hh,i,hi=>by
  simp only [allNe] at hh
  split at hh
  ·cases hh
  ·rename_i hne
   cases hi with
   | head=>exact hne
   | tail _ hi=>exact allNe_spec hh i hi
theorem stirs_ne {l:List Seg} (h:stirs l=true):l≠[]:=fun e=>by subst e; cases h
def lenK {α:Type}:List α→Nat→(Nat→Prop)→Prop
 | [],n,k=>frcN n k
 | _::r,n,k=>lenK r (n+1) k
theorem lenK_eq {α:Type}:∀ (l:List α) (n:Nat) (k:Nat→Prop),lenK l n k=k (n+l.length)
 | [],n,k=>frcN_eq n k
 | _::r,n,k=>by rw [lenK,lenK_eq r]; simp only [List.length_cons]; congr 1; omega
def mapK (g:Nat→Nat):List (List Seg)→(List (List Seg)→Prop)→Prop
 | [],k=>k []
 | x::r,k=>mapK g r fun l=>k (mpL g x::l)
theorem mapK_eq (g:Nat→Nat):∀ (l:List (List Seg)) (k:List (List Seg)→Prop),mapK g l k=k (l.map (mpL g))
 | [],_=>rfl
 | x::r,k=>by rw [mapK,mapK_eq g r]; rfl
def appK (g:Nat→Nat) (ys:List (List Seg)):List (List Seg)→(List (List Seg)→Prop)→Prop
 | [],k=>mapK g ys k
 | x::r,k=>appK g ys r fun l=>k (x::l)
theorem appK_eq (g:Nat→Nat) (ys:List (List Seg)):∀ (l:List (List Seg)) (k:List (List Seg)→Prop),appK g ys l k=k (l++ys.map (mpL g))
 | [],k=>mapK_eq g ys k
 | x::r,k=>by rw [appK,appK_eq g ys r]; rfl
def backK (g:Nat→Nat):List Nat→List (List Seg)→List (List Seg)→(List (List Seg)→Prop)→Prop
 | [],hs,h,k=>appK g hs h k
 | i::q,c::hs,h,k=>setH h i (mpL g c) fun h=>backK g q hs h k
 | _::_,[],h,k=>k h
theorem backK_eq (g:Nat→Nat):∀ (q:List Nat) (hs h:List (List Seg)) (k:List (List Seg)→Prop),backK g q hs h k=k (back g q hs h)
 | [],hs,h,k=>appK_eq g hs h k
 | i::q,c::hs,h,k=>by rw [backK,setH_eq,backK_eq g q]; rfl
 | _::_,[],_,_=>rfl
section
variable {C : Cx}
theorem apartB_spec {h:List (List Seg)} {q:List Nat}:∀ {l:List Nat},apartB h q l=true→∀ i∈l,i<h.length→i ∉ q∧getH h i≠[]
 | [],_,i,hi,_=>by cases hi
 | x::l,hh,i,hi,hl=>by
  simp only [apartB,Bool.and_eq_true] at hh
  cases hi with
  | tail _ hi=>exact apartB_spec hh.2 i hi hl
  | head =>
   have h1:=hh.1
   split at h1
   ·simp only [Bool.and_eq_true,Bool.not_eq_true'] at h1
    refine ⟨fun hc=>?_,fun e=>?_⟩
    ·rw [memB_iff.2 hc] at h1
     exact absurd h1.1 (by simp)
    ·rw [e] at h1
     exact absurd h1.2 (by simp)
   ·rename_i hb
    have:Nat.blt x h.length=true:=Nat.ble_eq_true_of_le hl
    rw [this] at hb
    cases hb
theorem frm_back {k:Keep} {h hs:List (List Seg)} {q:List Nat} {n:Nat} {r r':Rho} {w w':World} {lv sf:Nat→Prop} {h':List (List Seg)} (hqr:∀ i∈q,i<r.length) (hl:∀ i∈q,i<h.length) (hst:∀ i∈q.drop n,stirs (getH h i)=true) (hwr:∀ i∈q.drop n,C.ro≤i) (h4:keepB k (q.drop n) h=true) (ok:HeapOk C h r w)
  (hok:HeapOk ⟨C.P,C.T,w,((rn q r).drop n).map (·.1),rn q r,n,lv,sf⟩ hs r' w') (hnq:n≤q.length) (o4:q.drop n=[]→Ext [] w w') (ok2:HeapOk C h' (r++r'.drop q.length) w')
  (o5:∀ (k:Nat) (w1:World) (ms:List Nat),hs[k]?=some [.past w1 ms]→Ext ms w1 w'∧(∀ B,B<w.heap.size→B<w1.heap.size→B ∉ ms→∃ (i:Nat) (W:World) (ms:List Nat),h[i]?=some [.past W ms]∧B<W.heap.size∧B ∉ ms) ∧
   ∀ (j B f:Nat),C.ro≤j→(r++r'.drop q.length)[j]?=some (B,f)→B<w1.heap.size→B∈ms)
  (hkp:k.binds=true→Keeps h h')
  (o7:∀ (i:Nat) (W:World) (ms:List Nat),h'[i]?=some [.past W ms]→(h[i]?=some [.past W ms])∨∃ k:Nat,hs[k]?=some [.past W ms]):Frm C k h r w h' (r++r'.drop q.length) w':=by
 have hne:∀ i∈q.drop n,getH h i≠[]:=fun i hi=>stirs_ne (hst i hi)
 have hqs:∀ i∈q.drop n,i∈q:=fun i hi=>List.mem_of_mem_drop hi
 have hsub:∀ B,B∈((rn q r).drop n).map (·.1)→∃ i,i∈q.drop n∧∃ f,r[i]?=some (B,f):=by
  intro B hB
  obtain ⟨k,f,hk,e⟩:=mem_drop.1 hB
  cases hqk:q[k]? with
  | none=>simp [rn,hqk] at e
  | some j =>
   rw [rn_get hqr hqk] at e
   exact ⟨j,List.mem_of_getElem? (i:=k-n) (by rw [List.getElem?_drop,show n+(k-n)=k by omega]; exact hqk),f,e⟩
 have hmem:∀ B,B∈((rn q r).drop n).map (·.1)→B∈(r.drop C.ro).map (·.1):=fun B hB=>by
  obtain ⟨i,hi,f,e⟩:=hsub B hB
  exact mem_drop.2 ⟨i,f,hwr i hi,e⟩
 refine ⟨hok.ext.mono fun i hi=>.inl (hmem i hi),fun i B f ho e=>?_,?_,hkp,fun i W ms hi B h1 h2 h3=>?_⟩
 ·rw [List.getElem?_append] at e
  split at e
  ·exact .inl (mem_drop.2 ⟨i,f,ho,e⟩)
  ·rw [List.getElem?_drop] at e
   rcases hok.own _ B f (show n≤q.length+(i-r.length) by omega) e with h|h
   ·exact .inl (hmem B h)
   ·exact .inr h
 ·cases k with
  | free=>trivial
  | all=>exact o4 (by simpa [keepB] using h4)
  | only l =>
   refine ⟨?_,fun i hi ho B f hr hB=>hok.ext.block B hB fun hc=>?_,fun i W ms hi=>let ⟨_,_,e2,hl⟩:=hkp rfl i W ms hi; hl.ext (ok2.past i _ _ e2).1⟩
   ·exact ok.ext.trans2 hok.ext fun B hB=>by
     obtain ⟨i,hi,f,e⟩:=hsub B hB
     exact ok.own i B f (hwr i hi) e
   ·obtain ⟨j,hjq,f',e2⟩:=hsub B hc
    have hil:i<h.length:=by
     rw [← ok.len]
     rcases Nat.lt_or_ge i r.length with h|h
     ·exact h
     ·rw [List.getElem?_eq_none h] at hr; cases hr
    obtain ⟨a1,a2⟩:=apartB_spec h4 i hi hil
    have hij:i≠j:=fun e=>by subst e; exact a1 hjq
    have ch:∀ z,z<h.length→h[z]?=some (getH h z):=fun z hz=>by rw [getH_eq,List.getElem?_eq_getElem hz]; rfl
    rcases ok.apart i j B f f' _ _ hij ho (hwr j hjq) (ch i hil) (ch j (hl j (hqs j hjq))) hr e2 with h|h
    ·exact a2 h
    ·exact hne j hjq h
 ·rcases o7 i W ms hi with h5|⟨d,h5⟩
  ·exact ⟨i,W,ms,h5,h2,h3⟩
  ·exact (o5 d W ms h5).2.1 B h1 h2 h3
def allGe (n:Nat):List Nat→Bool
 | []=>true
 | x::r=>match Nat.ble n x with
  | true=>allGe n r
  | false=>false
theorem allGe_spec {n:Nat}:∀ {l:List Nat},allGe n l=true→∀ i∈l,n≤i
 | [],_,i,hi=>by cases hi
 | x::l,h,i,hi=>by
  simp only [allGe] at h
  split at h
  ·rename_i hb
   cases hi with
   | head=>exact ble_le hb
   | tail _ hi=>exact allGe_spec h i hi
  ·cases h
def disj (a:List Nat):List Nat→Bool
 | []=>true
 | x::r=>match memB x a with
  | true=>false
  | false=>disj a r
theorem disj_spec {a:List Nat}:∀ {l:List Nat},disj a l=true→∀ i∈l,i ∉ a
 | [],_,i,hi=>by cases hi
 | x::l,h,i,hi=>by
  simp only [disj] at h
  split at h
  ·cases h
  ·rename_i hb
   cases hi with
   | head=>exact fun hc=>by rw [memB_iff.2 hc] at hb; cases hb
   | tail _ hi=>exact disj_spec h i hi
def qOk (ro n:Nat) (qt:Keep) (q:List Nat) (h:List (List Seg)):Bool :=
 Nat.ble n q.length && nodup (q.drop n) && allLt q h.length && allNe h (q.drop n) && allGe ro (q.drop n) && disj (q.take n) (q.drop n) && keepB qt (q.drop n) h
theorem call_ok0 {qt:Keep} {h:List (List Seg)} {n:Nat} {h0:List (List Seg)} {q:List Nat} (hq:qOk C.ro n qt q h=true) (hE:entH q h q h0 True) {r:Rho} {w:World} (ok:HeapOk C h r w) :
  HeapOk (cx0 C.P C.T w (rn q r) n h0) h0 (rn q r) w∧∀ (i:Nat) (W:World) (ms:List Nat),h0[i]?=some [.past W ms]→∃ j,q[i]?=some j∧h[j]?=some [.past W ms]:=by
 simp only [qOk,Bool.and_eq_true] at hq
 obtain ⟨⟨⟨⟨⟨⟨h0',h1⟩,h2⟩,h3⟩,h5⟩,h6⟩,h4⟩:=hq
 have hnq:=ble_le h0'
 have hn:=nodup_spec h1
 have hl:=allLt_spec h2
 have hst:=allNe_spec h3
 have hne:∀ i∈q.drop n,getH h i≠[]:=fun i hi=>stirs_ne (hst i hi)
 have hwr:=allGe_spec h5
 have hdj:=disj_spec h6
 have hlen:=ok.len
 have hqs:∀ i∈q.drop n,i∈q:=fun i hi=>List.mem_of_mem_drop hi
 have hqr:∀ i∈q,i<r.length:=fun i hi=>by rw [hlen]; exact hl i hi
 obtain ⟨_,e7,e8⟩:=entH_spec hqr h hE
 have look:∀ (i B f:Nat),(rn q r)[i]?=some (B,f)→∃ j,q[i]?=some j∧r[j]?=some (B,f):=by
  intro i B f e
  cases hi:q[i]? with
  | none=>simp [rn,hi] at e
  | some j=>exact ⟨j,rfl,by rw [← rn_get hqr hi]; exact e⟩
 have hdrop:∀ (i j:Nat),n≤i→q[i]?=some j→j∈q.drop n:=fun i j hi e =>
  List.mem_of_getElem? (i:=i-n) (by rw [List.getElem?_drop,show n+(i-n)=i by omega]; exact e)
 have chunk:∀ j,j<h.length→h[j]?=some (getH h j):=fun j hj=>by rw [getH_eq,List.getElem?_eq_getElem hj]; rfl
 have cells:∀ (i B f:Nat) (ch:List Seg),h0[i]?=some ch→(rn q r)[i]?=some (B,f)→At (Nat.ble n i) (rn q r) w B f (flat ch):=by
  intro i B f ch hi hr j y e
  obtain ⟨j',hq',hr'⟩:=look i B f hr
  obtain ⟨_,h9⟩:=e8 i ch j' hi hq'
  obtain ⟨x,hx,hv⟩:=h9 j y e
  obtain ⟨v,e1,e2,e3⟩:=ok.chunk hr' j x hx
  exact ⟨v,e1,hv v e2,fun hb=>e3 (le_ble (hwr j' (hdrop i j' (ble_le hb) hq')))⟩
 have pastUp:∀ (i:Nat) (W:World) (ms:List Nat),h0[i]?=some [.past W ms]→∃ j,q[i]?=some j∧h[j]?=some [.past W ms]:=by
  intro i W ms hi
  have hil:i<q.length:=by
   rw [e7]
   rcases Nat.lt_or_ge i h0.length with h1|h1
   ·exact h1
   ·rw [List.getElem?_eq_none h1] at hi; cases hi
  have hqi:=List.getElem?_eq_getElem hil
  refine ⟨_,hqi,?_⟩
  have hk:=(e8 i _ _ hi hqi).1.2.2 W ms rfl
  rw [chunk _ (hl _ (List.getElem_mem _)),hk]
 refine ⟨?_,pastUp⟩
 ·refine ⟨Ext.refl _ _,RLe.refl _,by simpa [rn] using hnq,by simp [rn,e7],fun i ch B f hi hr=>cells i B f ch hi hr,fun i B f ho hr=>?_,fun i B f ho hr=>.inl (mem_drop.2 ⟨i,f,ho,hr⟩),fun i B f ho hlv hr=>?_,fun i ch ho hlv hi=>?_,fun i j B f f' ch ch' hij o1 o2 hi hj hri hrj=>?_,fun i m B f ho hi hr=>?_,fun i W ms hi=>?_⟩
  ·obtain ⟨j',hq',hr'⟩:=look i B f hr
   exact ok.lt j' B f (hwr j' (hdrop i j' ho hq')) hr'
  ·have hi0:i<h0.length:=by
    rw [← e7]
    obtain ⟨j',hq',_⟩:=look i B f hr
    rcases Nat.lt_or_ge i q.length with h|h
    ·exact h
    ·rw [List.getElem?_eq_none h] at hq'; cases hq'
   have hch:h0[i]?=some (getH h0 i):=by rw [getH_eq,List.getElem?_eq_getElem hi0]; rfl
   have hAt:=cells i B f _ hch hr
   refine ⟨fun hc=>?_,hAt.lt hlv⟩
   obtain ⟨j',hq',hr'⟩:=look i B f hr
   obtain ⟨i2,f2,hi2,e2⟩:=mem_drop.1 hc
   obtain ⟨j2,hq2,hr2⟩:=look i2 B f2 e2
   have hj2:=hdrop i2 j2 hi2 hq2
   have hjt:j'∈q.take n:=List.mem_of_getElem? (i:=i) (by rw [List.getElem?_take,if_pos ho]; exact hq')
   have hne2:j'≠j2:=fun e=>hdj j2 hj2 (e ▸ hjt)
   have hfl:=ok.sep hne2 (hwr j2 hj2) (chunk j' (hl j' (List.mem_of_getElem? hq'))) (chunk j2 (hl j2 (hqs j2 hj2))) hr' hr2 (hne j2 hj2)
   obtain ⟨_,h9⟩:=e8 i _ j' hch hq'
   cases e:flat (getH h0 i) with
   | nil=>exact hlv e
   | cons y l =>
    obtain ⟨x,hx,_⟩:=h9 0 y (by rw [e]; rfl)
    rw [hfl] at hx
    cases hx
  ·have:getH h0 i=ch:=by rw [getH_eq,hi]; rfl
   rw [← this]
   exact Classical.byContradiction hlv
  ·have o1:n≤i:=o1
   have o2:n≤j:=o2
   obtain ⟨i',hqi,hri'⟩:=look i B f hri
   obtain ⟨j',hqj,hrj'⟩:=look j B f' hrj
   have m1:=hdrop i i' o1 hqi
   have m2:=hdrop j j' o2 hqj
   have hne':i'≠j':=by
    intro e
    subst e
    have g1:(q.drop n)[i-n]?=some i':=by rw [List.getElem?_drop,show n+(i-n)=i by omega]; exact hqi
    have g2:(q.drop n)[j-n]?=some i':=by rw [List.getElem?_drop,show n+(j-n)=j by omega]; exact hqj
    have hi1:i-n<(q.drop n).length:=by
     rcases Nat.lt_or_ge (i-n) (q.drop n).length with h|h
     ·exact h
     ·rw [List.getElem?_eq_none h] at g1; cases g1
    have:=(List.getElem?_inj hi1 hn).1 (g1.trans g2.symm)
    omega
   have l1:=hl i' (hqs i' m1)
   have l2:=hl j' (hqs j' m2)
   rcases ok.apart i' j' B f f' _ _ hne' (hwr i' m1) (hwr j' m2) (chunk i' l1) (chunk j' l2) hri' hrj' with h|h
   ·exact .inl ((e8 i ch i' hi hqi).1.1 h)
   ·exact .inr ((e8 j ch' j' hj hqj).1.1 h)
  ·obtain ⟨j',hq',hr'⟩:=look i B f hr
   have m1:=hdrop i j' ho hq'
   refine ok.maps j' m B f (hwr j' m1) ?_ hr'
   have hk:=(e8 i _ _ hi hq').1.2.1 m rfl
   rw [← hk]
   exact chunk _ (hl _ (hqs j' m1))
  ·obtain ⟨j',hq',hj'⟩:=pastUp i W ms hi
   obtain ⟨p1,_,p3⟩:=ok.past j' W ms hj'
   refine ⟨p1,fun B _ h2 h3=>⟨i,W,ms,hi,h2,h3⟩,fun j B f ho hr hlt=>?_⟩
   obtain ⟨j2,hq2,hr2⟩:=look j B f hr
   exact p3 j2 B f (hwr j2 (hdrop j j2 ho hq2)) hr2 hlt
theorem call_fn {qt:Keep} {f:FuncId} {args args0:List SA} {t:List SV} {h:List (List Seg)} {k:SV→List (List Seg)→Prop} {n:Nat} {h0:List (List Seg)} {raw:World→Prop} {Res:SV→List (List Seg)→Prop}
  (hfn:FnR C.P C.T f n h0 args0 raw Res) (q:List Nat) (hq:qOk C.ro n qt q h=true)
  (hE:entH q h q h0 True) (hA:∀ r w vs,HeapOk C h r w→IsAs r args vs→IsAs (rn q r) args0 vs) (hraw:∀ r w,HeapOk C h r w→raw w)
  (hk:∀ x hs,Res x hs→lenK h 0 fun N=>backK (bk N q) (q.drop n) (hs.drop n) h fun h'=>k (x.mp (bk N q)) h'):CallVC C qt f #[] args #[] t h k:=by
 intro r a w vs ok ha
 obtain ⟨ok0,pastUp⟩:=call_ok0 hq hE ok.heap
 simp only [qOk,Bool.and_eq_true] at hq
 obtain ⟨⟨⟨⟨⟨⟨h0',h1⟩,h2⟩,h3⟩,h5⟩,h6⟩,h4⟩:=hq
 have hnq:=ble_le h0'
 have hn:=nodup_spec h1
 have hl:=allLt_spec h2
 have hst:=allNe_spec h3
 have hne:∀ i∈q.drop n,getH h i≠[]:=fun i hi=>stirs_ne (hst i hi)
 have hwr:=allGe_spec h5
 have hlen:=ok.heap.len
 have hqr:∀ i∈q,i<r.length:=fun i hi=>by rw [hlen]; exact hl i hi
 have hcall:=hfn w (rn q r) vs ok0 (hA r w vs ok.heap ha) (hraw r w ok.heap)
 have hargs:(#[]:Array Value)++vs.toArray++#[]=vs.toArray:=by simp
 rw [hargs]
 refine hcall.mono ?_
 rintro e w' ⟨v,x,hs,r',rfl,hx,hok,hres⟩
 obtain ⟨o1,o2,o3,o4,o5,o6,o7⟩:=ok.heap.back hnq hn hl hne hwr (fun B ⟨i,W,ms,h1,h2,h3⟩=>by
  obtain ⟨j',_,hj'⟩:=pastUp i W ms h1
  exact ⟨j',W,ms,hj',h2,h3⟩) hok
 have hk':=hk x hs hres
 rw [lenK_eq,Nat.zero_add,backK_eq] at hk'
 exact ⟨v,_,_,_,rfl,hx.mp o3,o2,o1,frm_back hqr hl hst hwr h4 ok.heap hok hnq o4 o1 o5 (fun _=>.of fun i W ms hi=>o6 i W ms (fun hc=>by
  have:=hst i hc
  rw [getH_eq,hi] at this
  cases this) hi) o7,hk'⟩
def eqAs (q:List Nat):List SA→List SA→Prop
 | [],[]=>True
 | x::r,y::r'=>eqA q x y (eqAs q r r')
 | _,_=>False
theorem eqAs_spec {q:List Nat} {r:Rho} (hq:∀ i∈q,i<r.length):∀ {l l':List SA} {vs:List Value},eqAs q l l'→IsAs r l vs→IsAs (rn q r) l' vs
 | [],[],vs,_,h=>⟨h.1,fun j x e=>by simp at e⟩
 | x::l,y::l',vs,h,hv=>by
  obtain ⟨h,h1⟩:=eqA_spec hq (show eqA q x y (eqAs q l l') from h)
  cases vs with
  | nil=>have:=hv.1; simp at this
  | cons v vs =>
   have ht:=eqAs_spec (vs:=vs) hq h ⟨by simpa using hv.1,fun j z e=>hv.2 (j+1) z e⟩
   refine ⟨by simpa using ht.1,fun j z e=>?_⟩
   cases j with
   | zero =>
    simp at e
    subst e
    obtain ⟨u,e1,e2⟩:=hv.2 0 x rfl
    exact ⟨u,e1,h1 u e2⟩
   | succ j=>exact ht.2 j z e
 | [],_::_,_,h,_=>h.elim
 | _::_,[],_,h,_=>h.elim
theorem call_same {qt:Keep} {f:FuncId} {args args0:List SA} {t:List SV} {h:List (List Seg)} {k:SV→List (List Seg)→Prop} {n:Nat} {h0:List (List Seg)} {raw:World→Prop} {Res:SV→List (List Seg)→Prop}
  (hfn:FnR C.P C.T f n h0 args0 raw Res) (q:List Nat) (hq:qOk C.ro n qt q h=true)
  (hA:eqAs q args args0) (hE:entH q h q h0 True) (hraw:∀ w,Ext C.m C.w0 w→raw w)
  (hk:∀ x hs,Res x hs→lenK h 0 fun N=>backK (bk N q) (q.drop n) (hs.drop n) h fun h'=>k (x.mp (bk N q)) h'):CallVC C qt f #[] args #[] t h k:=by
 refine call_fn hfn q hq hE (fun r w vs ok hv=>eqAs_spec (fun i hi=>?_) hA hv) (fun r w ok=>hraw w ok.ext) hk
 simp only [qOk,Bool.and_eq_true] at hq
 rw [ok.len]
 exact allLt_spec hq.1.1.1.1.2 i hi
end
end Sx
end
section
namespace Sx
def tds:List (Nat × TD):=[(1,⟨.fn,1,8,[.one (.nilFn)]⟩),
 (2,⟨.int .i64,1,8,[.one (.int .i64 0)]⟩),
 (3,⟨.int .i64,1,8,[.one (.int .i64 0)]⟩),
 (4,⟨.bool,1,1,[.one (.bool false)]⟩),
 (5,⟨.int .u8,1,1,[.one (.w8 0)]⟩),
 (6,⟨.int .u8,1,1,[.one (.w8 0)]⟩),
 (7,⟨.struct [(2,0),(3,1),(4,2),(6,3)],4,24,[.one (.int .i64 0),.one (.int .i64 0),.one (.bool false),.one (.w8 0)]⟩),
 (8,⟨.struct [(2,0),(3,1),(4,2),(6,3)],4,24,[.one (.int .i64 0),.one (.int .i64 0),.one (.bool false),.one (.w8 0)]⟩),
 (9,⟨.str,1,16,[.one (.str [])]⟩),
 (10,⟨.str,1,16,[.one (.str [])]⟩),
 (11,⟨.str,1,16,[.one (.str [])]⟩),
 (12,⟨.int .u64,1,8,[.one (.w64 0)]⟩),
 (13,⟨.struct [(9,0),(12,1)],2,24,[.one (.str []),.one (.w64 0)]⟩),
 (14,⟨.struct [(9,0),(12,1)],2,24,[.one (.str []),.one (.w64 0)]⟩),
 (15,⟨.ptr 163,1,8,[.one (.ptr none)]⟩),
 (16,⟨.ptr 166,1,8,[.one (.ptr none)]⟩),
 (17,⟨.ptr 174,1,8,[.one (.ptr none)]⟩),
 (18,⟨.struct [(17,0)],1,8,[.one (.ptr none)]⟩),
 (19,⟨.struct [(17,0)],1,8,[.one (.ptr none)]⟩),
 (20,⟨.ifc,1,16,[.one (.nilIfc)]⟩),
 (21,⟨.int .i32,1,4,[.one (.int .i32 0)]⟩),
 (22,⟨.slice 5,1,24,[.one (.slc none 0 0)]⟩),
 (23,⟨.slice 35,1,24,[.one (.slc none 0 0)]⟩),
 (24,⟨.fn,1,8,[.one (.nilFn)]⟩),
 (25,⟨.ptr 55,1,8,[.one (.ptr none)]⟩),
 (26,⟨.fn,1,8,[.one (.nilFn)]⟩),
 (27,⟨.ptr 73,1,8,[.one (.ptr none)]⟩),
 (28,⟨.fn,1,8,[.one (.nilFn)]⟩),
 (29,⟨.fn,1,8,[.one (.nilFn)]⟩),
 (30,⟨.array 32 5,32,32,[.row 32 (fun _=>.w8 0)]⟩),
 (31,⟨.int .u64,1,8,[.one (.w64 0)]⟩),
 (32,⟨.struct [(31,0),(31,1),(31,2),(31,3),(31,4),(31,5),(31,6),(31,7),(31,8),(22,9)],10,96,[.one (.w64 0),.one (.w64 0),.one (.w64 0),.one (.w64 0),.one (.w64 0),.one (.w64 0),.one (.w64 0),.one (.w64 0),.one (.w64 0),.one (.slc none 0 0)]⟩),
 (33,⟨.struct [(31,0),(31,1),(31,2),(31,3),(31,4),(31,5),(31,6),(31,7),(31,8),(22,9)],10,96,[.one (.w64 0),.one (.w64 0),.one (.w64 0),.one (.w64 0),.one (.w64 0),.one (.w64 0),.one (.w64 0),.one (.w64 0),.one (.w64 0),.one (.slc none 0 0)]⟩),
 (34,⟨.struct [(5,0),(30,1),(33,33),(30,43)],75,168,[.one (.w8 0),.row 32 (fun _=>.w8 0),.one (.w64 0),.one (.w64 0),.one (.w64 0),.one (.w64 0),.one (.w64 0),.one (.w64 0),.one (.w64 0),.one (.w64 0),.one (.w64 0),.one (.slc none 0 0),.row 32 (fun _=>.w8 0)]⟩),
 (35,⟨.struct [(5,0),(30,1),(33,33),(30,43)],75,168,[.one (.w8 0),.row 32 (fun _=>.w8 0),.one (.w64 0),.one (.w64 0),.one (.w64 0),.one (.w64 0),.one (.w64 0),.one (.w64 0),.one (.w64 0),.one (.w64 0),.one (.w64 0),.one (.slc none 0 0),.row 32 (fun _=>.w8 0)]⟩),
 (36,⟨.fn,1,8,[.one (.nilFn)]⟩),
 (37,⟨.int .i64,1,8,[.one (.int .i64 0)]⟩),
 (39,⟨.fn,1,8,[.one (.nilFn)]⟩),
 (40,⟨.fn,1,8,[.one (.nilFn)]⟩),
 (41,⟨.fn,1,8,[.one (.nilFn)]⟩),
 (43,⟨.fn,1,8,[.one (.nilFn)]⟩),
 (44,⟨.fn,1,8,[.one (.nilFn)]⟩),
 (45,⟨.array 32 5,32,32,[.row 32 (fun _=>.w8 0)]⟩),
 (46,⟨.struct [(45,0),(45,32),(45,64),(45,96)],128,128,[.row 32 (fun _=>.w8 0),.row 32 (fun _=>.w8 0),.row 32 (fun _=>.w8 0),.row 32 (fun _=>.w8 0)]⟩),
 (47,⟨.struct [(45,0),(45,32),(45,64),(45,96)],128,128,[.row 32 (fun _=>.w8 0),.row 32 (fun _=>.w8 0),.row 32 (fun _=>.w8 0),.row 32 (fun _=>.w8 0)]⟩),
 (48,⟨.fn,1,8,[.one (.nilFn)]⟩),
 (49,⟨.array 4 9,4,64,[.row 4 (fun _=>.str [])]⟩),
 (50,⟨.fn,1,8,[.one (.nilFn)]⟩),
 (51,⟨.fn,1,8,[.one (.nilFn)]⟩),
 (52,⟨.fn,1,8,[.one (.nilFn)]⟩),
 (53,⟨.fn,1,8,[.one (.nilFn)]⟩),
 (54,⟨.struct [(27,0),(45,1),(22,33)],34,64,[.one (.ptr none),.row 32 (fun _=>.w8 0),.one (.slc none 0 0)]⟩),
 (55,⟨.struct [(27,0),(45,1),(22,33)],34,64,[.one (.ptr none),.row 32 (fun _=>.w8 0),.one (.slc none 0 0)]⟩),
 (56,⟨.struct [],0,0,[]⟩),
 (57,⟨.struct [],0,0,[]⟩),
 (58,⟨.struct [],0,0,[]⟩),
 (59,⟨.int .u32,1,4,[.one (.w32 0)]⟩),
 (60,⟨.struct [(58,0),(59,0)],1,4,[.one (.w32 0)]⟩),
 (61,⟨.struct [(58,0),(59,0)],1,4,[.one (.w32 0)]⟩),
 (62,⟨.struct [(21,0),(59,1)],2,8,[.one (.int .i32 0),.one (.w32 0)]⟩),
 (63,⟨.struct [(21,0),(59,1)],2,8,[.one (.int .i32 0),.one (.w32 0)]⟩),
 (64,⟨.struct [(57,0),(63,0)],2,8,[.one (.int .i32 0),.one (.w32 0)]⟩),
 (65,⟨.struct [(57,0),(63,0)],2,8,[.one (.int .i32 0),.one (.w32 0)]⟩),
 (66,⟨.struct [(57,0),(61,0),(65,1)],3,12,[.one (.w32 0),.one (.int .i32 0),.one (.w32 0)]⟩),
 (67,⟨.struct [(57,0),(61,0),(65,1)],3,12,[.one (.w32 0),.one (.int .i32 0),.one (.w32 0)]⟩),
 (68,⟨.array 8 59,8,32,[.row 8 (fun _=>.w32 0)]⟩),
 (69,⟨.array 64 59,64,256,[.row 64 (fun _=>.w32 0)]⟩),
 (70,⟨.struct [(67,0),(68,3),(69,11)],75,300,[.one (.w32 0),.one (.int .i32 0),.one (.w32 0),.row 8 (fun _=>.w32 0),.row 64 (fun _=>.w32 0)]⟩),
 (71,⟨.struct [(67,0),(68,3),(69,11)],75,300,[.one (.w32 0),.one (.int .i32 0),.one (.w32 0),.row 8 (fun _=>.w32 0),.row 64 (fun _=>.w32 0)]⟩),
 (72,⟨.struct [(71,0)],75,300,[.one (.w32 0),.one (.int .i32 0),.one (.w32 0),.row 8 (fun _=>.w32 0),.row 64 (fun _=>.w32 0)]⟩),
 (73,⟨.struct [(71,0)],75,300,[.one (.w32 0),.one (.int .i32 0),.one (.w32 0),.row 8 (fun _=>.w32 0),.row 64 (fun _=>.w32 0)]⟩),
 (74,⟨.fn,1,8,[.one (.nilFn)]⟩),
 (75,⟨.fn,1,8,[.one (.nilFn)]⟩),
 (76,⟨.fn,1,8,[.one (.nilFn)]⟩),
 (77,⟨.fn,1,8,[.one (.nilFn)]⟩),
 (78,⟨.fn,1,8,[.one (.nilFn)]⟩),
 (79,⟨.array 9 31,9,72,[.row 9 (fun _=>.w64 0)]⟩),
 (80,⟨.fn,1,8,[.one (.nilFn)]⟩),
 (81,⟨.fn,1,8,[.one (.nilFn)]⟩),
 (82,⟨.fn,1,8,[.one (.nilFn)]⟩),
 (83,⟨.fn,1,8,[.one (.nilFn)]⟩),
 (84,⟨.fn,1,8,[.one (.nilFn)]⟩),
 (85,⟨.slice 59,1,24,[.one (.slc none 0 0)]⟩),
 (86,⟨.fn,1,8,[.one (.nilFn)]⟩),
 (87,⟨.fn,1,8,[.one (.nilFn)]⟩),
 (88,⟨.int .u64,1,8,[.one (.w64 0)]⟩),
 (89,⟨.fn,1,8,[.one (.nilFn)]⟩),
 (90,⟨.struct [(22,0),(37,1)],2,32,[.one (.slc none 0 0),.one (.int .i64 0)]⟩),
 (91,⟨.struct [(22,0),(37,1)],2,32,[.one (.slc none 0 0),.one (.int .i64 0)]⟩),
 (92,⟨.fn,1,8,[.one (.nilFn)]⟩),
 (93,⟨.fn,1,8,[.one (.nilFn)]⟩),
 (94,⟨.ptr 71,1,8,[.one (.ptr none)]⟩),
 (95,⟨.fn,1,8,[.one (.nilFn)]⟩),
 (96,⟨.slice 31,1,24,[.one (.slc none 0 0)]⟩),
 (97,⟨.fn,1,8,[.one (.nilFn)]⟩),
 (98,⟨.fn,1,8,[.one (.nilFn)]⟩),
 (99,⟨.fn,1,8,[.one (.nilFn)]⟩),
 (101,⟨.fn,1,8,[.one (.nilFn)]⟩),
 (102,⟨.ptr 122,1,8,[.one (.ptr none)]⟩),
 (103,⟨.fn,1,8,[.one (.nilFn)]⟩),
 (104,⟨.fn,1,8,[.one (.nilFn)]⟩),
 (105,⟨.fn,1,8,[.one (.nilFn)]⟩),
 (107,⟨.fn,1,8,[.one (.nilFn)]⟩),
 (108,⟨.fn,1,8,[.one (.nilFn)]⟩),
 (109,⟨.fn,1,8,[.one (.nilFn)]⟩),
 (110,⟨.slice 22,1,24,[.one (.slc none 0 0)]⟩),
 (111,⟨.array 64 5,64,64,[.row 64 (fun _=>.w8 0)]⟩),
 (112,⟨.struct [(94,0),(68,1),(111,9),(3,73),(31,74)],75,120,[.one (.ptr none),.row 8 (fun _=>.w32 0),.row 64 (fun _=>.w8 0),.one (.int .i64 0),.one (.w64 0)]⟩),
 (113,⟨.struct [(94,0),(68,1),(111,9),(3,73),(31,74)],75,120,[.one (.ptr none),.row 8 (fun _=>.w32 0),.row 64 (fun _=>.w8 0),.one (.int .i64 0),.one (.w64 0)]⟩),
 (114,⟨.fn,1,8,[.one (.nilFn)]⟩),
 (115,⟨.fn,1,8,[.one (.nilFn)]⟩),
 (116,⟨.fn,1,8,[.one (.nilFn)]⟩),
 (117,⟨.fn,1,8,[.one (.nilFn)]⟩),
 (118,⟨.ptr 91,1,8,[.one (.ptr none)]⟩),
 (119,⟨.fn,1,8,[.one (.nilFn)]⟩),
 (120,⟨.array 8 5,8,8,[.row 8 (fun _=>.w8 0)]⟩),
 (121,⟨.struct [(22,0),(37,1)],2,32,[.one (.slc none 0 0),.one (.int .i64 0)]⟩),
 (122,⟨.struct [(22,0),(37,1)],2,32,[.one (.slc none 0 0),.one (.int .i64 0)]⟩),
 (123,⟨.fn,1,8,[.one (.nilFn)]⟩),
 (124,⟨.map .w64,1,8,[.one (.nilMap)]⟩),
 (125,⟨.fn,1,8,[.one (.nilFn)]⟩),
 (127,⟨.fn,1,8,[.one (.nilFn)]⟩),
 (128,⟨.fn,1,8,[.one (.nilFn)]⟩),
 (129,⟨.fn,1,8,[.one (.nilFn)]⟩),
 (130,⟨.ptr 113,1,8,[.one (.ptr none)]⟩),
 (131,⟨.fn,1,8,[.one (.nilFn)]⟩),
 (133,⟨.fn,1,8,[.one (.nilFn)]⟩),
 (134,⟨.ptr 67,1,8,[.one (.ptr none)]⟩),
 (135,⟨.fn,1,8,[.one (.nilFn)]⟩),
 (136,⟨.fn,1,8,[.one (.nilFn)]⟩),
 (138,⟨.fn,1,8,[.one (.nilFn)]⟩),
 (140,⟨.fn,1,8,[.one (.nilFn)]⟩),
 (141,⟨.ptr 61,1,8,[.one (.ptr none)]⟩),
 (142,⟨.fn,1,8,[.one (.nilFn)]⟩),
 (143,⟨.ptr 59,1,8,[.one (.ptr none)]⟩),
 (144,⟨.fn,1,8,[.one (.nilFn)]⟩),
 (146,⟨.fn,1,8,[.one (.nilFn)]⟩),
 (147,⟨.ptr 65,1,8,[.one (.ptr none)]⟩),
 (148,⟨.fn,1,8,[.one (.nilFn)]⟩),
 (149,⟨.fn,1,8,[.one (.nilFn)]⟩),
 (150,⟨.ptr 63,1,8,[.one (.ptr none)]⟩),
 (151,⟨.fn,1,8,[.one (.nilFn)]⟩),
 (152,⟨.ptr 21,1,8,[.one (.ptr none)]⟩),
 (153,⟨.fn,1,8,[.one (.nilFn)]⟩),
 (155,⟨.fn,1,8,[.one (.nilFn)]⟩),
 (156,⟨.fn,1,8,[.one (.nilFn)]⟩),
 (157,⟨.fn,1,8,[.one (.nilFn)]⟩),
 (158,⟨.fn,1,8,[.one (.nilFn)]⟩),
 (159,⟨.fn,1,8,[.one (.nilFn)]⟩),
 (160,⟨.fn,1,8,[.one (.nilFn)]⟩),
 (161,⟨.fn,1,8,[.one (.nilFn)]⟩),
 (162,⟨.struct [(17,0),(17,1),(17,2),(9,3)],4,40,[.one (.ptr none),.one (.ptr none),.one (.ptr none),.one (.str [])]⟩),
 (163,⟨.struct [(17,0),(17,1),(17,2),(9,3)],4,40,[.one (.ptr none),.one (.ptr none),.one (.ptr none),.one (.str [])]⟩),
 (164,⟨.array 0 16,0,0,[.row 0 (fun _=>.ptr none)]⟩),
 (165,⟨.struct [(164,0)],0,0,[.row 0 (fun _=>.ptr none)]⟩),
 (166,⟨.struct [(164,0)],0,0,[.row 0 (fun _=>.ptr none)]⟩),
 (167,⟨.int .u8,1,1,[.one (.w8 0)]⟩),
 (168,⟨.int .u8,1,1,[.one (.w8 0)]⟩),
 (169,⟨.fn,1,8,[.one (.nilFn)]⟩),
 (170,⟨.ptr 5,1,8,[.one (.ptr none)]⟩),
 (171,⟨.int .i32,1,4,[.one (.int .i32 0)]⟩),
 (172,⟨.int .i32,1,4,[.one (.int .i32 0)]⟩),
 (173,⟨.struct [(12,0),(12,1),(59,2),(167,3),(5,4),(5,5),(168,6),(169,7),(170,8),(171,9),(172,10)],11,48,[.one (.w64 0),.one (.w64 0),.one (.w32 0),.one (.w8 0),.one (.w8 0),.one (.w8 0),.one (.w8 0),.one (.nilFn),.one (.ptr none),.one (.int .i32 0),.one (.int .i32 0)]⟩),
 (174,⟨.struct [(12,0),(12,1),(59,2),(167,3),(5,4),(5,5),(168,6),(169,7),(170,8),(171,9),(172,10)],11,48,[.one (.w64 0),.one (.w64 0),.one (.w32 0),.one (.w8 0),.one (.w8 0),.one (.w8 0),.one (.w8 0),.one (.nilFn),.one (.ptr none),.one (.int .i32 0),.one (.int .i32 0)]⟩),
 (175,⟨.fn,1,8,[.one (.nilFn)]⟩)]
theorem td_1:TdOk Try.prog 1 ⟨.fn,1,8,[.one (.nilFn)]⟩:=⟨by kernel_rfl,show _=_ by kernel_rfl,by kernel_rfl,by kernel_rfl,by kernel_rfl⟩
theorem td_2:TdOk Try.prog 2 ⟨.int .i64,1,8,[.one (.int .i64 0)]⟩:=⟨by kernel_rfl,show _=_ by kernel_rfl,by kernel_rfl,by kernel_rfl,by kernel_rfl⟩
theorem td_3:TdOk Try.prog 3 ⟨.int .i64,1,8,[.one (.int .i64 0)]⟩:=⟨by kernel_rfl,show _=_ by kernel_rfl,by kernel_rfl,by kernel_rfl,by kernel_rfl⟩
theorem td_4:TdOk Try.prog 4 ⟨.bool,1,1,[.one (.bool false)]⟩:=⟨by kernel_rfl,show _=_ by kernel_rfl,by kernel_rfl,by kernel_rfl,by kernel_rfl⟩
theorem td_5:TdOk Try.prog 5 ⟨.int .u8,1,1,[.one (.w8 0)]⟩:=⟨by kernel_rfl,show _=_ by kernel_rfl,by kernel_rfl,by kernel_rfl,by kernel_rfl⟩
theorem td_6:TdOk Try.prog 6 ⟨.int .u8,1,1,[.one (.w8 0)]⟩:=⟨by kernel_rfl,show _=_ by kernel_rfl,by kernel_rfl,by kernel_rfl,by kernel_rfl⟩
theorem td_7:TdOk Try.prog 7 ⟨.struct [(2,0),(3,1),(4,2),(6,3)],4,24,[.one (.int .i64 0),.one (.int .i64 0),.one (.bool false),.one (.w8 0)]⟩:=⟨by kernel_rfl,show _=_ by kernel_rfl,by kernel_rfl,by kernel_rfl,by kernel_rfl⟩
theorem td_8:TdOk Try.prog 8 ⟨.struct [(2,0),(3,1),(4,2),(6,3)],4,24,[.one (.int .i64 0),.one (.int .i64 0),.one (.bool false),.one (.w8 0)]⟩:=⟨by kernel_rfl,show _=_ by kernel_rfl,by kernel_rfl,by kernel_rfl,by kernel_rfl⟩
theorem td_9:TdOk Try.prog 9 ⟨.str,1,16,[.one (.str [])]⟩:=⟨by kernel_rfl,show _=_ by kernel_rfl,by kernel_rfl,by kernel_rfl,by kernel_rfl⟩
theorem td_10:TdOk Try.prog 10 ⟨.str,1,16,[.one (.str [])]⟩:=⟨by kernel_rfl,show _=_ by kernel_rfl,by kernel_rfl,by kernel_rfl,by kernel_rfl⟩
theorem td_11:TdOk Try.prog 11 ⟨.str,1,16,[.one (.str [])]⟩:=⟨by kernel_rfl,show _=_ by kernel_rfl,by kernel_rfl,by kernel_rfl,by kernel_rfl⟩
theorem td_12:TdOk Try.prog 12 ⟨.int .u64,1,8,[.one (.w64 0)]⟩:=⟨by kernel_rfl,show _=_ by kernel_rfl,by kernel_rfl,by kernel_rfl,by kernel_rfl⟩
theorem td_13:TdOk Try.prog 13 ⟨.struct [(9,0),(12,1)],2,24,[.one (.str []),.one (.w64 0)]⟩:=⟨by kernel_rfl,show _=_ by kernel_rfl,by kernel_rfl,by kernel_rfl,by kernel_rfl⟩
theorem td_14:TdOk Try.prog 14 ⟨.struct [(9,0),(12,1)],2,24,[.one (.str []),.one (.w64 0)]⟩:=⟨by kernel_rfl,show _=_ by kernel_rfl,by kernel_rfl,by kernel_rfl,by kernel_rfl⟩
theorem td_15:TdOk Try.prog 15 ⟨.ptr 163,1,8,[.one (.ptr none)]⟩:=⟨by kernel_rfl,show _=_ by kernel_rfl,by kernel_rfl,by kernel_rfl,by kernel_rfl⟩
theorem td_16:TdOk Try.prog 16 ⟨.ptr 166,1,8,[.one (.ptr none)]⟩:=⟨by kernel_rfl,show _=_ by kernel_rfl,by kernel_rfl,by kernel_rfl,by kernel_rfl⟩
theorem td_17:TdOk Try.prog 17 ⟨.ptr 174,1,8,[.one (.ptr none)]⟩:=⟨by kernel_rfl,show _=_ by kernel_rfl,by kernel_rfl,by kernel_rfl,by kernel_rfl⟩
theorem td_18:TdOk Try.prog 18 ⟨.struct [(17,0)],1,8,[.one (.ptr none)]⟩:=⟨by kernel_rfl,show _=_ by kernel_rfl,by kernel_rfl,by kernel_rfl,by kernel_rfl⟩
theorem td_19:TdOk Try.prog 19 ⟨.struct [(17,0)],1,8,[.one (.ptr none)]⟩:=⟨by kernel_rfl,show _=_ by kernel_rfl,by kernel_rfl,by kernel_rfl,by kernel_rfl⟩
theorem td_20:TdOk Try.prog 20 ⟨.ifc,1,16,[.one (.nilIfc)]⟩:=⟨by kernel_rfl,show _=_ by kernel_rfl,by kernel_rfl,by kernel_rfl,by kernel_rfl⟩
theorem td_21:TdOk Try.prog 21 ⟨.int .i32,1,4,[.one (.int .i32 0)]⟩:=⟨by kernel_rfl,show _=_ by kernel_rfl,by kernel_rfl,by kernel_rfl,by kernel_rfl⟩
theorem td_22:TdOk Try.prog 22 ⟨.slice 5,1,24,[.one (.slc none 0 0)]⟩:=⟨by kernel_rfl,show _=_ by kernel_rfl,by kernel_rfl,by kernel_rfl,by kernel_rfl⟩
theorem td_23:TdOk Try.prog 23 ⟨.slice 35,1,24,[.one (.slc none 0 0)]⟩:=⟨by kernel_rfl,show _=_ by kernel_rfl,by kernel_rfl,by kernel_rfl,by kernel_rfl⟩
theorem td_24:TdOk Try.prog 24 ⟨.fn,1,8,[.one (.nilFn)]⟩:=⟨by kernel_rfl,show _=_ by kernel_rfl,by kernel_rfl,by kernel_rfl,by kernel_rfl⟩
theorem td_25:TdOk Try.prog 25 ⟨.ptr 55,1,8,[.one (.ptr none)]⟩:=⟨by kernel_rfl,show _=_ by kernel_rfl,by kernel_rfl,by kernel_rfl,by kernel_rfl⟩
theorem td_26:TdOk Try.prog 26 ⟨.fn,1,8,[.one (.nilFn)]⟩:=⟨by kernel_rfl,show _=_ by kernel_rfl,by kernel_rfl,by kernel_rfl,by kernel_rfl⟩
theorem td_27:TdOk Try.prog 27 ⟨.ptr 73,1,8,[.one (.ptr none)]⟩:=⟨by kernel_rfl,show _=_ by kernel_rfl,by kernel_rfl,by kernel_rfl,by kernel_rfl⟩
theorem td_28:TdOk Try.prog 28 ⟨.fn,1,8,[.one (.nilFn)]⟩:=⟨by kernel_rfl,show _=_ by kernel_rfl,by kernel_rfl,by kernel_rfl,by kernel_rfl⟩
theorem td_29:TdOk Try.prog 29 ⟨.fn,1,8,[.one (.nilFn)]⟩:=⟨by kernel_rfl,show _=_ by kernel_rfl,by kernel_rfl,by kernel_rfl,by kernel_rfl⟩
theorem td_30:TdOk Try.prog 30 ⟨.array 32 5,32,32,[.row 32 (fun _=>.w8 0)]⟩:=⟨by kernel_rfl,show _=_ by kernel_rfl,by kernel_rfl,by kernel_rfl,by kernel_rfl⟩
theorem td_31:TdOk Try.prog 31 ⟨.int .u64,1,8,[.one (.w64 0)]⟩:=⟨by kernel_rfl,show _=_ by kernel_rfl,by kernel_rfl,by kernel_rfl,by kernel_rfl⟩
theorem td_32:TdOk Try.prog 32 ⟨.struct [(31,0),(31,1),(31,2),(31,3),(31,4),(31,5),(31,6),(31,7),(31,8),(22,9)],10,96,[.one (.w64 0),.one (.w64 0),.one (.w64 0),.one (.w64 0),.one (.w64 0),.one (.w64 0),.one (.w64 0),.one (.w64 0),.one (.w64 0),.one (.slc none 0 0)]⟩:=⟨by kernel_rfl,show _=_ by kernel_rfl,by kernel_rfl,by kernel_rfl,by kernel_rfl⟩
theorem td_33:TdOk Try.prog 33 ⟨.struct [(31,0),(31,1),(31,2),(31,3),(31,4),(31,5),(31,6),(31,7),(31,8),(22,9)],10,96,[.one (.w64 0),.one (.w64 0),.one (.w64 0),.one (.w64 0),.one (.w64 0),.one (.w64 0),.one (.w64 0),.one (.w64 0),.one (.w64 0),.one (.slc none 0 0)]⟩:=⟨by kernel_rfl,show _=_ by kernel_rfl,by kernel_rfl,by kernel_rfl,by kernel_rfl⟩
theorem td_34:TdOk Try.prog 34 ⟨.struct [(5,0),(30,1),(33,33),(30,43)],75,168,[.one (.w8 0),.row 32 (fun _=>.w8 0),.one (.w64 0),.one (.w64 0),.one (.w64 0),.one (.w64 0),.one (.w64 0),.one (.w64 0),.one (.w64 0),.one (.w64 0),.one (.w64 0),.one (.slc none 0 0),.row 32 (fun _=>.w8 0)]⟩:=⟨by kernel_rfl,show _=_ by kernel_rfl,by kernel_rfl,by kernel_rfl,by kernel_rfl⟩
theorem td_35:TdOk Try.prog 35 ⟨.struct [(5,0),(30,1),(33,33),(30,43)],75,168,[.one (.w8 0),.row 32 (fun _=>.w8 0),.one (.w64 0),.one (.w64 0),.one (.w64 0),.one (.w64 0),.one (.w64 0),.one (.w64 0),.one (.w64 0),.one (.w64 0),.one (.w64 0),.one (.slc none 0 0),.row 32 (fun _=>.w8 0)]⟩:=⟨by kernel_rfl,show _=_ by kernel_rfl,by kernel_rfl,by kernel_rfl,by kernel_rfl⟩
theorem td_36:TdOk Try.prog 36 ⟨.fn,1,8,[.one (.nilFn)]⟩:=⟨by kernel_rfl,show _=_ by kernel_rfl,by kernel_rfl,by kernel_rfl,by kernel_rfl⟩
theorem td_37:TdOk Try.prog 37 ⟨.int .i64,1,8,[.one (.int .i64 0)]⟩:=⟨by kernel_rfl,show _=_ by kernel_rfl,by kernel_rfl,by kernel_rfl,by kernel_rfl⟩
theorem td_39:TdOk Try.prog 39 ⟨.fn,1,8,[.one (.nilFn)]⟩:=⟨by kernel_rfl,show _=_ by kernel_rfl,by kernel_rfl,by kernel_rfl,by kernel_rfl⟩
theorem td_40:TdOk Try.prog 40 ⟨.fn,1,8,[.one (.nilFn)]⟩:=⟨by kernel_rfl,show _=_ by kernel_rfl,by kernel_rfl,by kernel_rfl,by kernel_rfl⟩
theorem td_41:TdOk Try.prog 41 ⟨.fn,1,8,[.one (.nilFn)]⟩:=⟨by kernel_rfl,show _=_ by kernel_rfl,by kernel_rfl,by kernel_rfl,by kernel_rfl⟩
theorem td_43:TdOk Try.prog 43 ⟨.fn,1,8,[.one (.nilFn)]⟩:=⟨by kernel_rfl,show _=_ by kernel_rfl,by kernel_rfl,by kernel_rfl,by kernel_rfl⟩
theorem td_44:TdOk Try.prog 44 ⟨.fn,1,8,[.one (.nilFn)]⟩:=⟨by kernel_rfl,show _=_ by kernel_rfl,by kernel_rfl,by kernel_rfl,by kernel_rfl⟩
theorem td_45:TdOk Try.prog 45 ⟨.array 32 5,32,32,[.row 32 (fun _=>.w8 0)]⟩:=⟨by kernel_rfl,show _=_ by kernel_rfl,by kernel_rfl,by kernel_rfl,by kernel_rfl⟩
theorem td_46:TdOk Try.prog 46 ⟨.struct [(45,0),(45,32),(45,64),(45,96)],128,128,[.row 32 (fun _=>.w8 0),.row 32 (fun _=>.w8 0),.row 32 (fun _=>.w8 0),.row 32 (fun _=>.w8 0)]⟩:=⟨by kernel_rfl,show _=_ by kernel_rfl,by kernel_rfl,by kernel_rfl,by kernel_rfl⟩
theorem td_47:TdOk Try.prog 47 ⟨.struct [(45,0),(45,32),(45,64),(45,96)],128,128,[.row 32 (fun _=>.w8 0),.row 32 (fun _=>.w8 0),.row 32 (fun _=>.w8 0),.row 32 (fun _=>.w8 0)]⟩:=⟨by kernel_rfl,show _=_ by kernel_rfl,by kernel_rfl,by kernel_rfl,by kernel_rfl⟩
theorem td_48:TdOk Try.prog 48 ⟨.fn,1,8,[.one (.nilFn)]⟩:=⟨by kernel_rfl,show _=_ by kernel_rfl,by kernel_rfl,by kernel_rfl,by kernel_rfl⟩
theorem td_49:TdOk Try.prog 49 ⟨.array 4 9,4,64,[.row 4 (fun _=>.str [])]⟩:=⟨by kernel_rfl,show _=_ by kernel_rfl,by kernel_rfl,by kernel_rfl,by kernel_rfl⟩
theorem td_50:TdOk Try.prog 50 ⟨.fn,1,8,[.one (.nilFn)]⟩:=⟨by kernel_rfl,show _=_ by kernel_rfl,by kernel_rfl,by kernel_rfl,by kernel_rfl⟩
theorem td_51:TdOk Try.prog 51 ⟨.fn,1,8,[.one (.nilFn)]⟩:=⟨by kernel_rfl,show _=_ by kernel_rfl,by kernel_rfl,by kernel_rfl,by kernel_rfl⟩
theorem td_52:TdOk Try.prog 52 ⟨.fn,1,8,[.one (.nilFn)]⟩:=⟨by kernel_rfl,show _=_ by kernel_rfl,by kernel_rfl,by kernel_rfl,by kernel_rfl⟩
theorem td_53:TdOk Try.prog 53 ⟨.fn,1,8,[.one (.nilFn)]⟩:=⟨by kernel_rfl,show _=_ by kernel_rfl,by kernel_rfl,by kernel_rfl,by kernel_rfl⟩
theorem td_54:TdOk Try.prog 54 ⟨.struct [(27,0),(45,1),(22,33)],34,64,[.one (.ptr none),.row 32 (fun _=>.w8 0),.one (.slc none 0 0)]⟩:=⟨by kernel_rfl,show _=_ by kernel_rfl,by kernel_rfl,by kernel_rfl,by kernel_rfl⟩
theorem td_55:TdOk Try.prog 55 ⟨.struct [(27,0),(45,1),(22,33)],34,64,[.one (.ptr none),.row 32 (fun _=>.w8 0),.one (.slc none 0 0)]⟩:=⟨by kernel_rfl,show _=_ by kernel_rfl,by kernel_rfl,by kernel_rfl,by kernel_rfl⟩
theorem td_56:TdOk Try.prog 56 ⟨.struct [],0,0,[]⟩:=⟨by kernel_rfl,show _=_ by kernel_rfl,by kernel_rfl,by kernel_rfl,by kernel_rfl⟩
theorem td_57:TdOk Try.prog 57 ⟨.struct [],0,0,[]⟩:=⟨by kernel_rfl,show _=_ by kernel_rfl,by kernel_rfl,by kernel_rfl,by kernel_rfl⟩
theorem td_58:TdOk Try.prog 58 ⟨.struct [],0,0,[]⟩:=⟨by kernel_rfl,show _=_ by kernel_rfl,by kernel_rfl,by kernel_rfl,by kernel_rfl⟩
theorem td_59:TdOk Try.prog 59 ⟨.int .u32,1,4,[.one (.w32 0)]⟩:=⟨by kernel_rfl,show _=_ by kernel_rfl,by kernel_rfl,by kernel_rfl,by kernel_rfl⟩
theorem td_60:TdOk Try.prog 60 ⟨.struct [(58,0),(59,0)],1,4,[.one (.w32 0)]⟩:=⟨by kernel_rfl,show _=_ by kernel_rfl,by kernel_rfl,by kernel_rfl,by kernel_rfl⟩
theorem td_61:TdOk Try.prog 61 ⟨.struct [(58,0),(59,0)],1,4,[.one (.w32 0)]⟩:=⟨by kernel_rfl,show _=_ by kernel_rfl,by kernel_rfl,by kernel_rfl,by kernel_rfl⟩
theorem td_62:TdOk Try.prog 62 ⟨.struct [(21,0),(59,1)],2,8,[.one (.int .i32 0),.one (.w32 0)]⟩:=⟨by kernel_rfl,show _=_ by kernel_rfl,by kernel_rfl,by kernel_rfl,by kernel_rfl⟩
theorem td_63:TdOk Try.prog 63 ⟨.struct [(21,0),(59,1)],2,8,[.one (.int .i32 0),.one (.w32 0)]⟩:=⟨by kernel_rfl,show _=_ by kernel_rfl,by kernel_rfl,by kernel_rfl,by kernel_rfl⟩
theorem td_64:TdOk Try.prog 64 ⟨.struct [(57,0),(63,0)],2,8,[.one (.int .i32 0),.one (.w32 0)]⟩:=⟨by kernel_rfl,show _=_ by kernel_rfl,by kernel_rfl,by kernel_rfl,by kernel_rfl⟩
theorem td_65:TdOk Try.prog 65 ⟨.struct [(57,0),(63,0)],2,8,[.one (.int .i32 0),.one (.w32 0)]⟩:=⟨by kernel_rfl,show _=_ by kernel_rfl,by kernel_rfl,by kernel_rfl,by kernel_rfl⟩
theorem td_66:TdOk Try.prog 66 ⟨.struct [(57,0),(61,0),(65,1)],3,12,[.one (.w32 0),.one (.int .i32 0),.one (.w32 0)]⟩:=⟨by kernel_rfl,show _=_ by kernel_rfl,by kernel_rfl,by kernel_rfl,by kernel_rfl⟩
theorem td_67:TdOk Try.prog 67 ⟨.struct [(57,0),(61,0),(65,1)],3,12,[.one (.w32 0),.one (.int .i32 0),.one (.w32 0)]⟩:=⟨by kernel_rfl,show _=_ by kernel_rfl,by kernel_rfl,by kernel_rfl,by kernel_rfl⟩
theorem td_68:TdOk Try.prog 68 ⟨.array 8 59,8,32,[.row 8 (fun _=>.w32 0)]⟩:=⟨by kernel_rfl,show _=_ by kernel_rfl,by kernel_rfl,by kernel_rfl,by kernel_rfl⟩
theorem td_69:TdOk Try.prog 69 ⟨.array 64 59,64,256,[.row 64 (fun _=>.w32 0)]⟩:=⟨by kernel_rfl,show _=_ by kernel_rfl,by kernel_rfl,by kernel_rfl,by kernel_rfl⟩
theorem td_70:TdOk Try.prog 70 ⟨.struct [(67,0),(68,3),(69,11)],75,300,[.one (.w32 0),.one (.int .i32 0),.one (.w32 0),.row 8 (fun _=>.w32 0),.row 64 (fun _=>.w32 0)]⟩:=⟨by kernel_rfl,show _=_ by kernel_rfl,by kernel_rfl,by kernel_rfl,by kernel_rfl⟩
theorem td_71:TdOk Try.prog 71 ⟨.struct [(67,0),(68,3),(69,11)],75,300,[.one (.w32 0),.one (.int .i32 0),.one (.w32 0),.row 8 (fun _=>.w32 0),.row 64 (fun _=>.w32 0)]⟩:=⟨by kernel_rfl,show _=_ by kernel_rfl,by kernel_rfl,by kernel_rfl,by kernel_rfl⟩
theorem td_72:TdOk Try.prog 72 ⟨.struct [(71,0)],75,300,[.one (.w32 0),.one (.int .i32 0),.one (.w32 0),.row 8 (fun _=>.w32 0),.row 64 (fun _=>.w32 0)]⟩:=⟨by kernel_rfl,show _=_ by kernel_rfl,by kernel_rfl,by kernel_rfl,by kernel_rfl⟩
theorem td_73:TdOk Try.prog 73 ⟨.struct [(71,0)],75,300,[.one (.w32 0),.one (.int .i32 0),.one (.w32 0),.row 8 (fun _=>.w32 0),.row 64 (fun _=>.w32 0)]⟩:=⟨by kernel_rfl,show _=_ by kernel_rfl,by kernel_rfl,by kernel_rfl,by kernel_rfl⟩
theorem td_74:TdOk Try.prog 74 ⟨.fn,1,8,[.one (.nilFn)]⟩:=⟨by kernel_rfl,show _=_ by kernel_rfl,by kernel_rfl,by kernel_rfl,by kernel_rfl⟩
theorem td_75:TdOk Try.prog 75 ⟨.fn,1,8,[.one (.nilFn)]⟩:=⟨by kernel_rfl,show _=_ by kernel_rfl,by kernel_rfl,by kernel_rfl,by kernel_rfl⟩
theorem td_76:TdOk Try.prog 76 ⟨.fn,1,8,[.one (.nilFn)]⟩:=⟨by kernel_rfl,show _=_ by kernel_rfl,by kernel_rfl,by kernel_rfl,by kernel_rfl⟩
theorem td_77:TdOk Try.prog 77 ⟨.fn,1,8,[.one (.nilFn)]⟩:=⟨by kernel_rfl,show _=_ by kernel_rfl,by kernel_rfl,by kernel_rfl,by kernel_rfl⟩
theorem td_78:TdOk Try.prog 78 ⟨.fn,1,8,[.one (.nilFn)]⟩:=⟨by kernel_rfl,show _=_ by kernel_rfl,by kernel_rfl,by kernel_rfl,by kernel_rfl⟩
theorem td_79:TdOk Try.prog 79 ⟨.array 9 31,9,72,[.row 9 (fun _=>.w64 0)]⟩:=⟨by kernel_rfl,show _=_ by kernel_rfl,by kernel_rfl,by kernel_rfl,by kernel_rfl⟩
theorem td_80:TdOk Try.prog 80 ⟨.fn,1,8,[.one (.nilFn)]⟩:=⟨by kernel_rfl,show _=_ by kernel_rfl,by kernel_rfl,by kernel_rfl,by kernel_rfl⟩
theorem td_81:TdOk Try.prog 81 ⟨.fn,1,8,[.one (.nilFn)]⟩:=⟨by kernel_rfl,show _=_ by kernel_rfl,by kernel_rfl,by kernel_rfl,by kernel_rfl⟩
theorem td_82:TdOk Try.prog 82 ⟨.fn,1,8,[.one (.nilFn)]⟩:=⟨by kernel_rfl,show _=_ by kernel_rfl,by kernel_rfl,by kernel_rfl,by kernel_rfl⟩
theorem td_83:TdOk Try.prog 83 ⟨.fn,1,8,[.one (.nilFn)]⟩:=⟨by kernel_rfl,show _=_ by kernel_rfl,by kernel_rfl,by kernel_rfl,by kernel_rfl⟩
theorem td_84:TdOk Try.prog 84 ⟨.fn,1,8,[.one (.nilFn)]⟩:=⟨by kernel_rfl,show _=_ by kernel_rfl,by kernel_rfl,by kernel_rfl,by kernel_rfl⟩
theorem td_85:TdOk Try.prog 85 ⟨.slice 59,1,24,[.one (.slc none 0 0)]⟩:=⟨by kernel_rfl,show _=_ by kernel_rfl,by kernel_rfl,by kernel_rfl,by kernel_rfl⟩
theorem td_86:TdOk Try.prog 86 ⟨.fn,1,8,[.one (.nilFn)]⟩:=⟨by kernel_rfl,show _=_ by kernel_rfl,by kernel_rfl,by kernel_rfl,by kernel_rfl⟩
theorem td_87:TdOk Try.prog 87 ⟨.fn,1,8,[.one (.nilFn)]⟩:=⟨by kernel_rfl,show _=_ by kernel_rfl,by kernel_rfl,by kernel_rfl,by kernel_rfl⟩
theorem td_88:TdOk Try.prog 88 ⟨.int .u64,1,8,[.one (.w64 0)]⟩:=⟨by kernel_rfl,show _=_ by kernel_rfl,by kernel_rfl,by kernel_rfl,by kernel_rfl⟩
theorem td_89:TdOk Try.prog 89 ⟨.fn,1,8,[.one (.nilFn)]⟩:=⟨by kernel_rfl,show _=_ by kernel_rfl,by kernel_rfl,by kernel_rfl,by kernel_rfl⟩
theorem td_90:TdOk Try.prog 90 ⟨.struct [(22,0),(37,1)],2,32,[.one (.slc none 0 0),.one (.int .i64 0)]⟩:=⟨by kernel_rfl,show _=_ by kernel_rfl,by kernel_rfl,by kernel_rfl,by kernel_rfl⟩
theorem td_91:TdOk Try.prog 91 ⟨.struct [(22,0),(37,1)],2,32,[.one (.slc none 0 0),.one (.int .i64 0)]⟩:=⟨by kernel_rfl,show _=_ by kernel_rfl,by kernel_rfl,by kernel_rfl,by kernel_rfl⟩
theorem td_92:TdOk Try.prog 92 ⟨.fn,1,8,[.one (.nilFn)]⟩:=⟨by kernel_rfl,show _=_ by kernel_rfl,by kernel_rfl,by kernel_rfl,by kernel_rfl⟩
theorem td_93:TdOk Try.prog 93 ⟨.fn,1,8,[.one (.nilFn)]⟩:=⟨by kernel_rfl,show _=_ by kernel_rfl,by kernel_rfl,by kernel_rfl,by kernel_rfl⟩
theorem td_94:TdOk Try.prog 94 ⟨.ptr 71,1,8,[.one (.ptr none)]⟩:=⟨by kernel_rfl,show _=_ by kernel_rfl,by kernel_rfl,by kernel_rfl,by kernel_rfl⟩
theorem td_95:TdOk Try.prog 95 ⟨.fn,1,8,[.one (.nilFn)]⟩:=⟨by kernel_rfl,show _=_ by kernel_rfl,by kernel_rfl,by kernel_rfl,by kernel_rfl⟩
theorem td_96:TdOk Try.prog 96 ⟨.slice 31,1,24,[.one (.slc none 0 0)]⟩:=⟨by kernel_rfl,show _=_ by kernel_rfl,by kernel_rfl,by kernel_rfl,by kernel_rfl⟩
theorem td_97:TdOk Try.prog 97 ⟨.fn,1,8,[.one (.nilFn)]⟩:=⟨by kernel_rfl,show _=_ by kernel_rfl,by kernel_rfl,by kernel_rfl,by kernel_rfl⟩
theorem td_98:TdOk Try.prog 98 ⟨.fn,1,8,[.one (.nilFn)]⟩:=⟨by kernel_rfl,show _=_ by kernel_rfl,by kernel_rfl,by kernel_rfl,by kernel_rfl⟩
theorem td_99:TdOk Try.prog 99 ⟨.fn,1,8,[.one (.nilFn)]⟩:=⟨by kernel_rfl,show _=_ by kernel_rfl,by kernel_rfl,by kernel_rfl,by kernel_rfl⟩
theorem td_101:TdOk Try.prog 101 ⟨.fn,1,8,[.one (.nilFn)]⟩:=⟨by kernel_rfl,show _=_ by kernel_rfl,by kernel_rfl,by kernel_rfl,by kernel_rfl⟩
theorem td_102:TdOk Try.prog 102 ⟨.ptr 122,1,8,[.one (.ptr none)]⟩:=⟨by kernel_rfl,show _=_ by kernel_rfl,by kernel_rfl,by kernel_rfl,by kernel_rfl⟩
theorem td_103:TdOk Try.prog 103 ⟨.fn,1,8,[.one (.nilFn)]⟩:=⟨by kernel_rfl,show _=_ by kernel_rfl,by kernel_rfl,by kernel_rfl,by kernel_rfl⟩
theorem td_104:TdOk Try.prog 104 ⟨.fn,1,8,[.one (.nilFn)]⟩:=⟨by kernel_rfl,show _=_ by kernel_rfl,by kernel_rfl,by kernel_rfl,by kernel_rfl⟩
theorem td_105:TdOk Try.prog 105 ⟨.fn,1,8,[.one (.nilFn)]⟩:=⟨by kernel_rfl,show _=_ by kernel_rfl,by kernel_rfl,by kernel_rfl,by kernel_rfl⟩
theorem td_107:TdOk Try.prog 107 ⟨.fn,1,8,[.one (.nilFn)]⟩:=⟨by kernel_rfl,show _=_ by kernel_rfl,by kernel_rfl,by kernel_rfl,by kernel_rfl⟩
theorem td_108:TdOk Try.prog 108 ⟨.fn,1,8,[.one (.nilFn)]⟩:=⟨by kernel_rfl,show _=_ by kernel_rfl,by kernel_rfl,by kernel_rfl,by kernel_rfl⟩
theorem td_109:TdOk Try.prog 109 ⟨.fn,1,8,[.one (.nilFn)]⟩:=⟨by kernel_rfl,show _=_ by kernel_rfl,by kernel_rfl,by kernel_rfl,by kernel_rfl⟩
theorem td_110:TdOk Try.prog 110 ⟨.slice 22,1,24,[.one (.slc none 0 0)]⟩:=⟨by kernel_rfl,show _=_ by kernel_rfl,by kernel_rfl,by kernel_rfl,by kernel_rfl⟩
theorem td_111:TdOk Try.prog 111 ⟨.array 64 5,64,64,[.row 64 (fun _=>.w8 0)]⟩:=⟨by kernel_rfl,show _=_ by kernel_rfl,by kernel_rfl,by kernel_rfl,by kernel_rfl⟩
theorem td_112:TdOk Try.prog 112 ⟨.struct [(94,0),(68,1),(111,9),(3,73),(31,74)],75,120,[.one (.ptr none),.row 8 (fun _=>.w32 0),.row 64 (fun _=>.w8 0),.one (.int .i64 0),.one (.w64 0)]⟩:=⟨by kernel_rfl,show _=_ by kernel_rfl,by kernel_rfl,by kernel_rfl,by kernel_rfl⟩
theorem td_113:TdOk Try.prog 113 ⟨.struct [(94,0),(68,1),(111,9),(3,73),(31,74)],75,120,[.one (.ptr none),.row 8 (fun _=>.w32 0),.row 64 (fun _=>.w8 0),.one (.int .i64 0),.one (.w64 0)]⟩:=⟨by kernel_rfl,show _=_ by kernel_rfl,by kernel_rfl,by kernel_rfl,by kernel_rfl⟩
theorem td_114:TdOk Try.prog 114 ⟨.fn,1,8,[.one (.nilFn)]⟩:=⟨by kernel_rfl,show _=_ by kernel_rfl,by kernel_rfl,by kernel_rfl,by kernel_rfl⟩
theorem td_115:TdOk Try.prog 115 ⟨.fn,1,8,[.one (.nilFn)]⟩:=⟨by kernel_rfl,show _=_ by kernel_rfl,by kernel_rfl,by kernel_rfl,by kernel_rfl⟩
theorem td_116:TdOk Try.prog 116 ⟨.fn,1,8,[.one (.nilFn)]⟩:=⟨by kernel_rfl,show _=_ by kernel_rfl,by kernel_rfl,by kernel_rfl,by kernel_rfl⟩
theorem td_117:TdOk Try.prog 117 ⟨.fn,1,8,[.one (.nilFn)]⟩:=⟨by kernel_rfl,show _=_ by kernel_rfl,by kernel_rfl,by kernel_rfl,by kernel_rfl⟩
theorem td_118:TdOk Try.prog 118 ⟨.ptr 91,1,8,[.one (.ptr none)]⟩:=⟨by kernel_rfl,show _=_ by kernel_rfl,by kernel_rfl,by kernel_rfl,by kernel_rfl⟩
theorem td_119:TdOk Try.prog 119 ⟨.fn,1,8,[.one (.nilFn)]⟩:=⟨by kernel_rfl,show _=_ by kernel_rfl,by kernel_rfl,by kernel_rfl,by kernel_rfl⟩
theorem td_120:TdOk Try.prog 120 ⟨.array 8 5,8,8,[.row 8 (fun _=>.w8 0)]⟩:=⟨by kernel_rfl,show _=_ by kernel_rfl,by kernel_rfl,by kernel_rfl,by kernel_rfl⟩
theorem td_121:TdOk Try.prog 121 ⟨.struct [(22,0),(37,1)],2,32,[.one (.slc none 0 0),.one (.int .i64 0)]⟩:=⟨by kernel_rfl,show _=_ by kernel_rfl,by kernel_rfl,by kernel_rfl,by kernel_rfl⟩
theorem td_122:TdOk Try.prog 122 ⟨.struct [(22,0),(37,1)],2,32,[.one (.slc none 0 0),.one (.int .i64 0)]⟩:=⟨by kernel_rfl,show _=_ by kernel_rfl,by kernel_rfl,by kernel_rfl,by kernel_rfl⟩
theorem td_123:TdOk Try.prog 123 ⟨.fn,1,8,[.one (.nilFn)]⟩:=⟨by kernel_rfl,show _=_ by kernel_rfl,by kernel_rfl,by kernel_rfl,by kernel_rfl⟩
theorem td_124:TdOk Try.prog 124 ⟨.map .w64,1,8,[.one (.nilMap)]⟩:=⟨by kernel_rfl,⟨31,31,by kernel_rfl,by kernel_rfl,by kernel_rfl⟩,by kernel_rfl,by kernel_rfl,by kernel_rfl⟩
theorem td_125:TdOk Try.prog 125 ⟨.fn,1,8,[.one (.nilFn)]⟩:=⟨by kernel_rfl,show _=_ by kernel_rfl,by kernel_rfl,by kernel_rfl,by kernel_rfl⟩
theorem td_127:TdOk Try.prog 127 ⟨.fn,1,8,[.one (.nilFn)]⟩:=⟨by kernel_rfl,show _=_ by kernel_rfl,by kernel_rfl,by kernel_rfl,by kernel_rfl⟩
theorem td_128:TdOk Try.prog 128 ⟨.fn,1,8,[.one (.nilFn)]⟩:=⟨by kernel_rfl,show _=_ by kernel_rfl,by kernel_rfl,by kernel_rfl,by kernel_rfl⟩
theorem td_129:TdOk Try.prog 129 ⟨.fn,1,8,[.one (.nilFn)]⟩:=⟨by kernel_rfl,show _=_ by kernel_rfl,by kernel_rfl,by kernel_rfl,by kernel_rfl⟩
theorem td_130:TdOk Try.prog 130 ⟨.ptr 113,1,8,[.one (.ptr none)]⟩:=⟨by kernel_rfl,show _=_ by kernel_rfl,by kernel_rfl,by kernel_rfl,by kernel_rfl⟩
theorem td_131:TdOk Try.prog 131 ⟨.fn,1,8,[.one (.nilFn)]⟩:=⟨by kernel_rfl,show _=_ by kernel_rfl,by kernel_rfl,by kernel_rfl,by kernel_rfl⟩
theorem td_133:TdOk Try.prog 133 ⟨.fn,1,8,[.one (.nilFn)]⟩:=⟨by kernel_rfl,show _=_ by kernel_rfl,by kernel_rfl,by kernel_rfl,by kernel_rfl⟩
theorem td_134:TdOk Try.prog 134 ⟨.ptr 67,1,8,[.one (.ptr none)]⟩:=⟨by kernel_rfl,show _=_ by kernel_rfl,by kernel_rfl,by kernel_rfl,by kernel_rfl⟩
theorem td_135:TdOk Try.prog 135 ⟨.fn,1,8,[.one (.nilFn)]⟩:=⟨by kernel_rfl,show _=_ by kernel_rfl,by kernel_rfl,by kernel_rfl,by kernel_rfl⟩
theorem td_136:TdOk Try.prog 136 ⟨.fn,1,8,[.one (.nilFn)]⟩:=⟨by kernel_rfl,show _=_ by kernel_rfl,by kernel_rfl,by kernel_rfl,by kernel_rfl⟩
theorem td_138:TdOk Try.prog 138 ⟨.fn,1,8,[.one (.nilFn)]⟩:=⟨by kernel_rfl,show _=_ by kernel_rfl,by kernel_rfl,by kernel_rfl,by kernel_rfl⟩
theorem td_140:TdOk Try.prog 140 ⟨.fn,1,8,[.one (.nilFn)]⟩:=⟨by kernel_rfl,show _=_ by kernel_rfl,by kernel_rfl,by kernel_rfl,by kernel_rfl⟩
theorem td_141:TdOk Try.prog 141 ⟨.ptr 61,1,8,[.one (.ptr none)]⟩:=⟨by kernel_rfl,show _=_ by kernel_rfl,by kernel_rfl,by kernel_rfl,by kernel_rfl⟩
theorem td_142:TdOk Try.prog 142 ⟨.fn,1,8,[.one (.nilFn)]⟩:=⟨by kernel_rfl,show _=_ by kernel_rfl,by kernel_rfl,by kernel_rfl,by kernel_rfl⟩
theorem td_143:TdOk Try.prog 143 ⟨.ptr 59,1,8,[.one (.ptr none)]⟩:=⟨by kernel_rfl,show _=_ by kernel_rfl,by kernel_rfl,by kernel_rfl,by kernel_rfl⟩
theorem td_144:TdOk Try.prog 144 ⟨.fn,1,8,[.one (.nilFn)]⟩:=⟨by kernel_rfl,show _=_ by kernel_rfl,by kernel_rfl,by kernel_rfl,by kernel_rfl⟩
theorem td_146:TdOk Try.prog 146 ⟨.fn,1,8,[.one (.nilFn)]⟩:=⟨by kernel_rfl,show _=_ by kernel_rfl,by kernel_rfl,by kernel_rfl,by kernel_rfl⟩
theorem td_147:TdOk Try.prog 147 ⟨.ptr 65,1,8,[.one (.ptr none)]⟩:=⟨by kernel_rfl,show _=_ by kernel_rfl,by kernel_rfl,by kernel_rfl,by kernel_rfl⟩
theorem td_148:TdOk Try.prog 148 ⟨.fn,1,8,[.one (.nilFn)]⟩:=⟨by kernel_rfl,show _=_ by kernel_rfl,by kernel_rfl,by kernel_rfl,by kernel_rfl⟩
theorem td_149:TdOk Try.prog 149 ⟨.fn,1,8,[.one (.nilFn)]⟩:=⟨by kernel_rfl,show _=_ by kernel_rfl,by kernel_rfl,by kernel_rfl,by kernel_rfl⟩
theorem td_150:TdOk Try.prog 150 ⟨.ptr 63,1,8,[.one (.ptr none)]⟩:=⟨by kernel_rfl,show _=_ by kernel_rfl,by kernel_rfl,by kernel_rfl,by kernel_rfl⟩
theorem td_151:TdOk Try.prog 151 ⟨.fn,1,8,[.one (.nilFn)]⟩:=⟨by kernel_rfl,show _=_ by kernel_rfl,by kernel_rfl,by kernel_rfl,by kernel_rfl⟩
theorem td_152:TdOk Try.prog 152 ⟨.ptr 21,1,8,[.one (.ptr none)]⟩:=⟨by kernel_rfl,show _=_ by kernel_rfl,by kernel_rfl,by kernel_rfl,by kernel_rfl⟩
theorem td_153:TdOk Try.prog 153 ⟨.fn,1,8,[.one (.nilFn)]⟩:=⟨by kernel_rfl,show _=_ by kernel_rfl,by kernel_rfl,by kernel_rfl,by kernel_rfl⟩
theorem td_155:TdOk Try.prog 155 ⟨.fn,1,8,[.one (.nilFn)]⟩:=⟨by kernel_rfl,show _=_ by kernel_rfl,by kernel_rfl,by kernel_rfl,by kernel_rfl⟩
theorem td_156:TdOk Try.prog 156 ⟨.fn,1,8,[.one (.nilFn)]⟩:=⟨by kernel_rfl,show _=_ by kernel_rfl,by kernel_rfl,by kernel_rfl,by kernel_rfl⟩
theorem td_157:TdOk Try.prog 157 ⟨.fn,1,8,[.one (.nilFn)]⟩:=⟨by kernel_rfl,show _=_ by kernel_rfl,by kernel_rfl,by kernel_rfl,by kernel_rfl⟩
theorem td_158:TdOk Try.prog 158 ⟨.fn,1,8,[.one (.nilFn)]⟩:=⟨by kernel_rfl,show _=_ by kernel_rfl,by kernel_rfl,by kernel_rfl,by kernel_rfl⟩
theorem td_159:TdOk Try.prog 159 ⟨.fn,1,8,[.one (.nilFn)]⟩:=⟨by kernel_rfl,show _=_ by kernel_rfl,by kernel_rfl,by kernel_rfl,by kernel_rfl⟩
theorem td_160:TdOk Try.prog 160 ⟨.fn,1,8,[.one (.nilFn)]⟩:=⟨by kernel_rfl,show _=_ by kernel_rfl,by kernel_rfl,by kernel_rfl,by kernel_rfl⟩
theorem td_161:TdOk Try.prog 161 ⟨.fn,1,8,[.one (.nilFn)]⟩:=⟨by kernel_rfl,show _=_ by kernel_rfl,by kernel_rfl,by kernel_rfl,by kernel_rfl⟩
theorem td_162:TdOk Try.prog 162 ⟨.struct [(17,0),(17,1),(17,2),(9,3)],4,40,[.one (.ptr none),.one (.ptr none),.one (.ptr none),.one (.str [])]⟩:=⟨by kernel_rfl,show _=_ by kernel_rfl,by kernel_rfl,by kernel_rfl,by kernel_rfl⟩
theorem td_163:TdOk Try.prog 163 ⟨.struct [(17,0),(17,1),(17,2),(9,3)],4,40,[.one (.ptr none),.one (.ptr none),.one (.ptr none),.one (.str [])]⟩:=⟨by kernel_rfl,show _=_ by kernel_rfl,by kernel_rfl,by kernel_rfl,by kernel_rfl⟩
theorem td_164:TdOk Try.prog 164 ⟨.array 0 16,0,0,[.row 0 (fun _=>.ptr none)]⟩:=⟨by kernel_rfl,show _=_ by kernel_rfl,by kernel_rfl,by kernel_rfl,by kernel_rfl⟩
theorem td_165:TdOk Try.prog 165 ⟨.struct [(164,0)],0,0,[.row 0 (fun _=>.ptr none)]⟩:=⟨by kernel_rfl,show _=_ by kernel_rfl,by kernel_rfl,by kernel_rfl,by kernel_rfl⟩
theorem td_166:TdOk Try.prog 166 ⟨.struct [(164,0)],0,0,[.row 0 (fun _=>.ptr none)]⟩:=⟨by kernel_rfl,show _=_ by kernel_rfl,by kernel_rfl,by kernel_rfl,by kernel_rfl⟩
theorem td_167:TdOk Try.prog 167 ⟨.int .u8,1,1,[.one (.w8 0)]⟩:=⟨by kernel_rfl,show _=_ by kernel_rfl,by kernel_rfl,by kernel_rfl,by kernel_rfl⟩
theorem td_168:TdOk Try.prog 168 ⟨.int .u8,1,1,[.one (.w8 0)]⟩:=⟨by kernel_rfl,show _=_ by kernel_rfl,by kernel_rfl,by kernel_rfl,by kernel_rfl⟩
theorem td_169:TdOk Try.prog 169 ⟨.fn,1,8,[.one (.nilFn)]⟩:=⟨by kernel_rfl,show _=_ by kernel_rfl,by kernel_rfl,by kernel_rfl,by kernel_rfl⟩
theorem td_170:TdOk Try.prog 170 ⟨.ptr 5,1,8,[.one (.ptr none)]⟩:=⟨by kernel_rfl,show _=_ by kernel_rfl,by kernel_rfl,by kernel_rfl,by kernel_rfl⟩
theorem td_171:TdOk Try.prog 171 ⟨.int .i32,1,4,[.one (.int .i32 0)]⟩:=⟨by kernel_rfl,show _=_ by kernel_rfl,by kernel_rfl,by kernel_rfl,by kernel_rfl⟩
theorem td_172:TdOk Try.prog 172 ⟨.int .i32,1,4,[.one (.int .i32 0)]⟩:=⟨by kernel_rfl,show _=_ by kernel_rfl,by kernel_rfl,by kernel_rfl,by kernel_rfl⟩
theorem td_173:TdOk Try.prog 173 ⟨.struct [(12,0),(12,1),(59,2),(167,3),(5,4),(5,5),(168,6),(169,7),(170,8),(171,9),(172,10)],11,48,[.one (.w64 0),.one (.w64 0),.one (.w32 0),.one (.w8 0),.one (.w8 0),.one (.w8 0),.one (.w8 0),.one (.nilFn),.one (.ptr none),.one (.int .i32 0),.one (.int .i32 0)]⟩:=⟨by kernel_rfl,show _=_ by kernel_rfl,by kernel_rfl,by kernel_rfl,by kernel_rfl⟩
theorem td_174:TdOk Try.prog 174 ⟨.struct [(12,0),(12,1),(59,2),(167,3),(5,4),(5,5),(168,6),(169,7),(170,8),(171,9),(172,10)],11,48,[.one (.w64 0),.one (.w64 0),.one (.w32 0),.one (.w8 0),.one (.w8 0),.one (.w8 0),.one (.w8 0),.one (.nilFn),.one (.ptr none),.one (.int .i32 0),.one (.int .i32 0)]⟩:=⟨by kernel_rfl,show _=_ by kernel_rfl,by kernel_rfl,by kernel_rfl,by kernel_rfl⟩
theorem td_175:TdOk Try.prog 175 ⟨.fn,1,8,[.one (.nilFn)]⟩:=⟨by kernel_rfl,show _=_ by kernel_rfl,by kernel_rfl,by kernel_rfl,by kernel_rfl⟩
theorem tds_ok:AllT Try.prog tds:=⟨td_1,td_2,td_3,td_4,td_5,td_6,td_7,td_8,td_9,td_10,td_11,td_12,td_13,td_14,td_15,td_16,td_17,td_18,td_19,td_20,td_21,td_22,td_23,td_24,td_25,td_26,td_27,td_28,td_29,td_30,td_31,td_32,td_33,td_34,td_35,td_36,td_37,td_39,td_40,td_41,td_43,td_44,td_45,td_46,td_47,td_48,td_49,td_50,td_51,td_52,td_53,td_54,td_55,td_56,td_57,td_58,td_59,td_60,td_61,td_62,td_63,td_64,td_65,td_66,td_67,td_68,td_69,td_70,td_71,td_72,td_73,td_74,td_75,td_76,td_77,td_78,td_79,td_80,td_81,td_82,td_83,td_84,td_85,td_86,td_87,td_88,td_89,td_90,td_91,td_92,td_93,td_94,td_95,td_96,td_97,td_98,td_99,td_101,td_102,td_103,td_104,td_105,td_107,td_108,td_109,td_110,td_111,td_112,td_113,td_114,td_115,td_116,td_117,td_118,td_119,td_120,td_121,td_122,td_123,td_124,td_125,td_127,td_128,td_129,td_130,td_131,td_133,td_134,td_135,td_136,td_138,td_140,td_141,td_142,td_143,td_144,td_146,td_147,td_148,td_149,td_150,td_151,td_152,td_153,td_155,td_156,td_157,td_158,td_159,td_160,td_161,td_162,td_163,td_164,td_165,td_166,td_167,td_168,td_169,td_170,td_171,td_172,td_173,td_174,td_175,trivial⟩
end Sx
end
section
namespace Sx

theorem frcN_of {n m:Nat} {k:Nat→Prop} (h:n=m) (hk:k m):frcN n k:=by subst h; exact hk
end Sx
end
section
namespace Sha
abbrev Bs:=List (BitVec 8)
def L (l:Bs) (i:Nat):BitVec 8:=l.getD i 0#8
theorem L_lt {l:Bs} {i:Nat} (h:i<l.length):L l i=l[i]:=by
 unfold L; rw [List.getD_eq_getElem?_getD,List.getElem?_eq_getElem h]; rfl
theorem L_app1 {l m:Bs} {i:Nat} (h:i<l.length):L (l++m) i=L l i:=by
 unfold L; rw [List.getD_eq_getElem?_getD,List.getD_eq_getElem?_getD,List.getElem?_append_left h]
theorem L_app2 {l m:Bs} {i:Nat}:L (l++m) (l.length+i)=L m i:=by
 unfold L; rw [List.getD_eq_getElem?_getD,List.getD_eq_getElem?_getD,List.getElem?_append_right (by omega),Nat.add_sub_cancel_left]
theorem L_app {l m:Bs} {i:Nat}:L (l++m) i=if i<l.length then L l i else L m (i-l.length):=by
 split
 ·rename_i h; exact L_app1 h
 ·rename_i h
  have:=@L_app2 l m (i-l.length)
  rwa [show l.length+(i-l.length)=i by omega] at this
theorem L_drop (l:Bs) (o i:Nat):L (l.drop o) i=L l (o+i):=by
 unfold L; rw [List.getD_eq_getElem?_getD,List.getD_eq_getElem?_getD,List.getElem?_drop]
theorem L_take (l:Bs) (n i:Nat) (h:i<n):L (l.take n) i=L l i:=by
 unfold L; rw [List.getD_eq_getElem?_getD,List.getD_eq_getElem?_getD,List.getElem?_take,if_pos h]
def tab (n:Nat) (b:Nat→BitVec 8):Bs:=(List.range n).map b
@[simp] theorem tab_len (n:Nat) (b:Nat→BitVec 8):(tab n b).length=n:=by simp [tab]
theorem L_tab {n:Nat} {b:Nat→BitVec 8} {i:Nat} (h:i<n):L (tab n b) i=b i:=by
 unfold L tab; rw [List.getD_eq_getElem?_getD]; simp [h]
theorem ext_L {l m:Bs} (h:l.length=m.length) (k:∀ i,i<l.length→L l i=L m i):l=m:=by
 apply List.ext_getElem h
 intro i h1 h2
 have:=k i h1
 rwa [L_lt h1,L_lt h2] at this
theorem tab_L {l:Bs}:tab l.length (L l)=l:=ext_L (by simp) fun i hi=>L_tab (by simpa using hi)
theorem tab_ext {n:Nat} {b:Nat→BitVec 8} {l:Bs} (h:l.length=n) (k:∀ i,i<n→b i=L l i):tab n b=l :=
 ext_L (by simp [h]) fun i hi=>by rw [tab_len] at hi; rw [L_tab hi,k i hi]
def U8 (l:Bs):List UInt8:=l.map UInt8.ofBitVec
@[simp] theorem U8_len (l:Bs):(U8 l).length=l.length:=by simp [U8]
theorem U8_get (l:Bs) (q:Nat) (h:q<l.length):((U8 l).getD q 0).toBitVec=L l q:=by
 rw [L_lt h,List.getD_eq_getElem?_getD,U8,List.getElem?_map,List.getElem?_eq_getElem h]
 rfl
theorem U8_inj {l m:Bs} (h:U8 l=U8 m):l=m:=by
 have:(U8 l).map UInt8.toBitVec=(U8 m).map UInt8.toBitVec:=congrArg _ h
 simpa [U8,Function.comp_def] using this
def BS (l:List UInt8):Bs:=l.map UInt8.toBitVec
@[simp] theorem BS_len (l:List UInt8):(BS l).length=l.length:=by simp [BS]
theorem L_BS (l:List UInt8) (i:Nat) (hi:i<l.length):L (BS l) i=(l.getD i 0).toBitVec:=by
 rw [L_lt (by simpa using hi),List.getD_eq_getElem?_getD,List.getElem?_eq_getElem hi]
 simp [BS]
end Sha
namespace Sx
open Sha

theorem follows_:Try.prog.follows .mixedOrders=true:=by kernel_rfl
theorem cast64 {k:Nat} (h:k<64):(BitVec.ofInt 64 (k:Int)).toNat=k:=by
 rw [BitVec.ofInt_natCast,BitVec.toNat_ofNat,Nat.mod_eq_of_lt (by omega)]
theorem eqC_w8 {q:List Nat} {x:SC} {b:BitVec 8} (h:x=.w8 b):eqC q x (.w8 b) True:=by subst h; exact ⟨rfl,trivial⟩
theorem upd_w8 {f g:Nat→SC} {k:Nat} {v:SC} (hv:v=g k) (hf:∀ j,j≠k→f j=g j) (j:Nat):upd f k v j=g j:=by
 unfold upd
 split
 ·rename_i h; rw [h,hv]
 ·rename_i h; exact hf j h
def bytesF (n:Nat) (b:Nat→BitVec 8):Nat→SC:=fun j=>if j<n then .w8 (b j) else .any
theorem bytesF_lt {n:Nat} {b:Nat→BitVec 8} {j:Nat} (h:j<n):bytesF n b j=.w8 (b j):=if_pos h
theorem eqC_bytes {q:List Nat} {n:Nat} {f:Nat→SC} {b:Nat→BitVec 8} (h:∀ j,j<n→f j=.w8 (b j)) (j:Nat):eqC q (f j) (bytesF n b j) True:=by
 unfold bytesF
 split
 ·rename_i hj; exact eqC_w8 (h j hj)
 ·trivial
theorem len2 {α:Type}:∀ {l:List α},l.length=2→∃ a b,l=[a,b]
 | [a,b],_=>⟨a,b,rfl⟩
theorem idx8 (x:BitVec 8):0≤(x.toNat:Int)∧(x.toNat:Int)<((256:Nat):Int):=by have:=x.isLt; omega
theorem lt8 {c:Nat} (h:256≤c) (x:BitVec 8):((x.toNat:Int)).toNat+0<c:=by have:=x.isLt; omega
theorem upd_bytes {n k:Nat} {f g:Nat→BitVec 8} {v:SC} (hk:k<n) (hv:v=.w8 (g k)) (hf:∀ j,j≠k→f j=g j) (j:Nat) (hj:j<n):upd (bytesF n f) k v j=.w8 (g j):=by
 unfold upd
 split
 ·rename_i h; rw [h,hv]
 ·rename_i h; rw [bytesF_lt hj,hf j h]
theorem len2' {α:Type}:∀ {l:List α},l.length=2→∃ a b,l=[a,b]
 | [a,b],_=>⟨a,b,rfl⟩
theorem len3' {α:Type}:∀ {l:List α},l.length=3→∃ a b c,l=[a,b,c]
 | [a,b,c],_=>⟨a,b,c,rfl⟩
theorem len4' {α:Type}:∀ {l:List α},l.length=4→∃ a b c d,l=[a,b,c,d]
 | [a,b,c,d],_=>⟨a,b,c,d,rfl⟩
theorem len5' {α:Type}:∀ {l:List α},l.length=5→∃ a b c d e,l=[a,b,c,d,e]
 | [a,b,c,d,e],_=>⟨a,b,c,d,e,rfl⟩
def winF (o n:Nat) (b:Nat→BitVec 8):Nat→SC:=fun j=>if o≤j∧j<o+n then .w8 (b (j-o)) else .any
theorem winF_at (o n:Nat) (b:Nat→BitVec 8) {i:Nat} (h:i<n):winF o n b (o+i)=.w8 (b i):=by
 unfold winF
 rw [if_pos ⟨by omega,by omega⟩,show o+i-o=i by omega]
theorem eqC_win {q:List Nat} {o n:Nat} {f:Nat→SC} {b:Nat→BitVec 8} (h:∀ i,i<n→f (o+i)=.w8 (b i)) (j:Nat):eqC q (f j) (winF o n b j) True:=by
 unfold winF
 split
 ·rename_i hj
  have:=h (j-o) (by omega)
  rw [show o+(j-o)=j by omega] at this
  exact eqC_w8 this
 ·trivial
theorem eqC_winS {q:List Nat} {o n:Nat} {b:Nat→BitVec 8} {j:Nat}:eqC q (winF o n b j) (winF o n b j) True:=eqC_win (fun _ h=>winF_at _ _ _ h) j
theorem eqC_winM {q:List Nat} {g:Nat→Nat} {o n:Nat} {b:Nat→BitVec 8} {j:Nat}:eqC q (SC.mp g (winF o n b j)) (winF o n b j) True :=
 eqC_win (f:=fun j=>SC.mp g (winF o n b j)) (fun _ h=>by rw [winF_at _ _ _ h]; rfl) j
theorem eqC_selfB {q:List Nat} {n:Nat} {b:Nat→BitVec 8} {j:Nat}:eqC q (bytesF n b j) (bytesF n b j) True:=eqC_bytes (fun _ h=>bytesF_lt h) j
theorem eqC_mpB {q:List Nat} {g:Nat→Nat} {n:Nat} {b:Nat→BitVec 8} {j:Nat}:eqC q (SC.mp g (bytesF n b j)) (bytesF n b j) True :=
 eqC_bytes (f:=fun j=>SC.mp g (bytesF n b j)) (fun j h=>by rw [bytesF_lt h]; rfl) j
theorem eqC_winB {q:List Nat} {n:Nat} {b:Nat→BitVec 8} {j:Nat}:eqC q (bytesF n b j) (winF 0 n b j) True :=
 eqC_win (fun i h=>by rw [Nat.zero_add]; exact bytesF_lt h) j
def bts:Bool→Nat→Nat→Nat→(Nat→BitVec 8)→List Seg
 | true,_,_,_,_=>[]
 | false,N,o,n,b=>[.row N (winF o n b)]
theorem sn_bts {h:List (List Seg)} {z:Bool} {j N o n:Nat} {b:Nat→BitVec 8} {k:(Nat→SC)→Prop} (hj:getH h j=bts z N o n b) (hN:o+n≤N) (hz:z=true→n=0)
  (hk:∀ g:Nat→SC,(∀ i,i<n→g i=.w8 (b i))→k g):∃ f:Nat→SC,((z=true→n=0)∧(z=false→SnAt h j 0 o n 1 f))∧k f:=by
 refine ⟨fun i=>.w8 (b i),⟨hz,?_⟩,hk _ fun _ _=>rfl⟩
 rintro rfl
 exact ⟨N,winF o n b,[],by rw [hj]; rfl,hN,fun q hq=>by rw [Nat.add_comm]; exact (winF_at _ _ _ hq).symm⟩
def partsF (m:Nat) (g:Nat→SC):Nat→SC:=fun i=>if i<m then g i else .any
theorem frc_parts {m:Nat} {g:Nat→SC} {i:Nat} {k:SC→Prop} (h:i<m) (hk:frcSC (g i) k):frcSC (partsF m g i) k:=by
 unfold partsF; rw [if_pos h]; exact hk
theorem eqC_parts {q:List Nat} {m:Nat} {f g:Nat→SC} (h:∀ i,i<m→eqC q (f i) (g i) True) (j:Nat):eqC q (f j) (partsF m g j) True:=by
 unfold partsF
 split
 ·exact h j ‹_›
 ·trivial
theorem eqC_partsS {q:List Nat} {m:Nat} {g:Nat→SC} (h:∀ i,i<m→eqC q (g i) (g i) True) {j:Nat}:eqC q (partsF m g j) (partsF m g j) True :=
 eqC_parts (fun i hi=>by unfold partsF; rw [if_pos hi]; exact h i hi) j
def sub (l:Bs) (o n:Nat):Bs:=(l.drop o).take n
theorem eqC_bts {q:List Nat} {z:Bool} {N o n:Nat} {b:Nat→BitVec 8} {k:Prop} (hk:k):eqSegs q (bts z N o n b) (bts z N o n b) k:=by
 cases z
 ·exact ⟨rfl,fun j hj=>eqC_winS,hk⟩
 ·exact hk
theorem eqC_btsM {q:List Nat} {g:Nat→Nat} {z:Bool} {N o n:Nat} {b:Nat→BitVec 8} {k:Prop} (hk:k):eqSegs q (mpL g (bts z N o n b)) (bts z N o n b) k:=by
 cases z
 ·exact ⟨rfl,fun j hj=>eqC_winM,hk⟩
 ·exact hk
theorem len6' {α:Type}:∀ {l:List α},l.length=6→∃ a b c d e g,l=[a,b,c,d,e,g]
 | [a,b,c,d,e,g],_=>⟨a,b,c,d,e,g,rfl⟩
theorem eqC_win8 {q:List Nat} {n:Nat} {b b':Nat→BitVec 8} (h:∀ i,i<n→b i=b' i) (j:Nat):eqC q (SC.w8 (b j)) (winF 0 n b' j) True :=
 eqC_win (f:=fun j=>SC.w8 (b j)) (fun i hi=>congrArg SC.w8 (by rw [Nat.zero_add]; exact h i hi)) j
theorem frc_bytesL {n:Nat} {b:Nat→BitVec 8} {j:Nat} {k:SC→Prop} (h:j<n) (hk:k (.w8 (b j))):frcSC (bytesF n b j) k:=by
 rw [bytesF_lt h]; exact hk
theorem eqC_win0 {q:List Nat} {n:Nat} {f:Nat→SC} {b:Nat→BitVec 8} (h:∀ i,i<n→f i=.w8 (b i)) (j:Nat):eqC q (f j) (winF 0 n b j) True :=
 eqC_win (fun i hi=>by rw [Nat.zero_add]; exact h i hi) j
theorem frc_win {o n i:Nat} {b:Nat→BitVec 8} {k:SC→Prop} (h:i<n) (hk:k (.w8 (b i))):frcSC (winF o n b (i+o)) k:=by
 rw [Nat.add_comm,winF_at _ _ _ h]; exact hk
theorem eqSegs_nil {q:List Nat} {x:List Seg} {k:Prop} (h:k):eqSegs q x [] k:=by
 cases x with
 | nil=>exact h
 | cons a r=>cases a <;> exact h
theorem str_of {g:Nat→SC} {n:Nat} {M:Bs} (hn:M.length=n) (h:∀ q,q<n→g q=.w8 (L M q)):(U8 M).length=n∧∀ q,q<n→g q=.w8 ((U8 M).getD q 0).toBitVec :=
 ⟨by rw [U8_len,hn],fun q hq=>by rw [h q hq,U8_get M q (by omega)]⟩
theorem nthC_w8:∀ (l:Bs) (j:Nat),j<l.length→nthC (l.map SC.w8) j=.w8 (L l j)
 | [],_,h=>absurd h (by simp)
 | x::l,0,_=>rfl
 | x::l,j+1,h=>nthC_w8 l j (by simpa using h)
theorem eqC_lit {q:List Nat} (l:Bs) {j:Nat} (h:j<l.length):eqC q (nthC (l.map SC.w8) j) (winF 0 l.length (L l) j) True :=
 eqC_win0 (f:=nthC (l.map SC.w8)) (fun i hi=>nthC_w8 l i hi) j
theorem app_row {f g:Nat→SC} {l m:Bs} {n k:Nat} (hn:l.length=n) (hk:m.length=k) (hf:∀ i,i<n→f i=.w8 (L l i)) (hg:∀ i,i<k→g i=.w8 (L m i)) (i:Nat) (hi:i<n+k) :
  appF f 0 (scale n (0+1)) (scale k (0+1)) g i=.w8 (L (l++m) i):=by
 have e1:scale n (0+1)=n:=by rw [scale_eq,Nat.zero_add,Nat.mul_one]
 have e2:scale k (0+1)=k:=by rw [scale_eq,Nat.zero_add,Nat.mul_one]
 unfold appF
 rw [e1,e2,L_app,hn]
 by_cases h:i<n
 ·rw [if_pos h,if_pos h]; exact hf i h
 ·rw [if_neg h,if_pos hi,if_neg h]; exact hg _ (by omega)
theorem new_row {g:Nat→SC} {m:Bs} {k:Nat} (hg:∀ i,i<k→g i=.w8 (L m i)) (i:Nat) (hi:i<k):newF (scale k (0+1)) g i=.w8 (L m i):=by
 have e2:scale k (0+1)=k:=by rw [scale_eq,Nat.zero_add,Nat.mul_one]
 unfold newF
 rw [e2,if_pos hi]; exact hg i hi
theorem one_row {x y:BitVec 8} (h:x=y) (i:Nat) (hi:i<1):nthC [.w8 x] i=.w8 (L [y] i):=by
 obtain rfl:i=0:=by omega
 subst h; rfl
theorem BS_row (l:List UInt8) (i:Nat) (hi:i<l.length):SC.w8 (l.getD i 0).toBitVec=.w8 (L (BS l) i):=congrArg SC.w8 (L_BS l i hi).symm
theorem sn_btsM {h:List (List Seg)} {g:Nat→Nat} {z:Bool} {j N o n:Nat} {b:Nat→BitVec 8} {k:(Nat→SC)→Prop} (hj:getH h j=mpL g (bts z N o n b)) (hN:o+n≤N) (hz:z=true→n=0)
  (hk:∀ g:Nat→SC,(∀ i,i<n→g i=.w8 (b i))→k g):∃ f:Nat→SC,((z=true→n=0)∧(z=false→SnAt h j 0 o n 1 f))∧k f:=by
 refine ⟨fun i=>.w8 (b i),⟨hz,?_⟩,hk _ fun _ _=>rfl⟩
 rintro rfl
 refine ⟨N,fun j=>SC.mp g (winF o n b j),[],by rw [hj]; rfl,hN,fun q hq=>?_⟩
 show SC.w8 (b q)=SC.mp g (winF o n b (q+o))
 rw [Nat.add_comm,winF_at _ _ _ (show q<n from hq)]
 rfl
theorem eqC_winBM {q:List Nat} {g:Nat→Nat} {n m:Nat} {b:Nat→BitVec 8} {j:Nat} (h:m≤n):eqC q (SC.mp g (bytesF n b j)) (winF 0 m b j) True :=
 eqC_win0 (f:=fun j=>SC.mp g (bytesF n b j)) (fun i hi=>by rw [bytesF_lt (by omega)]; rfl) j
theorem frc_winA {o n x:Nat} {b:Nat→BitVec 8} {k:SC→Prop} (i:Nat) (hx:x=i+o) (h:i<n) (hk:k (.w8 (b i))):frcSC (winF o n b x) k:=by
 rw [hx]; exact frc_win h hk
theorem ent1 {a b:Prop} (k:b) (h:a:=by first|exact rfl|exact fun _ _=>⟨rfl,trivial⟩|exact fun _ _=>trivial|exact ⟨rfl,rfl⟩|omega|exact fun _ _=>eqC_winS|exact fun _ _=>eqC_winM|exact fun _ _=>eqC_winB|exact fun _ _=>eqC_selfB|exact fun _ _=>eqC_mpB):a∧b:=⟨h,k⟩
end Sx
end
section
namespace Vi
open Sha

def lenN (n:BitVec 64):Nat:=if n<64#64 then 1 else if n<16384#64 then 2 else if n<1073741824#64 then 4 else if n<4611686018427387904#64 then 8 else 0
def okSz (k:Nat):Prop:=k=1∨k=2∨k=4∨k=8
def markB (k:Nat):BitVec 8:=if k=2 then 64#8 else if k=4 then 128#8 else if k=8 then 192#8 else 0#8
def byteN (n:BitVec 64) (j:Nat):BitVec 8:=(n >>> (8*j)).setWidth 8
def wideL (n:BitVec 64) (k:Nat):Bs:=tab k fun i=>if i=0 then byteN n (k-1) ||| markB k else byteN n (k-1-i)
def putL (n:BitVec 64):Bs:=wideL n (lenN n)
@[simp] theorem wideL_len (n:BitVec 64) (k:Nat):(wideL n k).length=k:=tab_len _ _
def sizeT (c:BitVec 8):Nat:=2 ^ (c >>> 6).toNat
def numT (l:Bs):Nat→BitVec 64
 | 0=>(L l 0 &&& 63#8).setWidth 64
 | i+1=>numT l i <<< 8 ||| (L l (i+1)).setWidth 64
theorem lenN_spec (n:BitVec 64):(n.toNat<64∧lenN n=1)∨(64≤n.toNat∧n.toNat<16384∧lenN n=2)∨(16384≤n.toNat∧n.toNat<1073741824∧lenN n=4) ∨
  (1073741824≤n.toNat∧n.toNat<4611686018427387904∧lenN n=8)∨(4611686018427387904≤n.toNat∧lenN n=0):=by
 unfold lenN
 simp only [BitVec.lt_def,BitVec.toNat_ofNat]
 split <;> (try split) <;> (try split) <;> (try split) <;> omega
theorem lenN_ok {n:BitVec 64} (h:lenN n≠0):okSz (lenN n):=by
 have:=lenN_spec n
 unfold okSz
 omega
theorem byteN_toNat (n:BitVec 64) (j:Nat):(byteN n j).toNat=n.toNat / 256 ^ j % 256:=by
 unfold byteN
 rw [BitVec.toNat_setWidth,BitVec.toNat_ushiftRight,Nat.shiftRight_eq_div_pow,Nat.pow_mul]
theorem step_toNat (a:BitVec 64) (c:BitVec 8) (h:a.toNat<2 ^ 56):(a <<< 8 ||| c.setWidth 64).toNat=a.toNat*256+c.toNat:=by
 have hc:=c.isLt
 rw [BitVec.toNat_or,BitVec.toNat_shiftLeft,BitVec.toNat_setWidth,Nat.shiftLeft_eq,Nat.mod_eq_of_lt (by omega),Nat.mod_eq_of_lt (by omega:c.toNat<2 ^ 64),Nat.mul_comm]
 exact (Nat.two_pow_add_eq_or_of_lt (by omega) _).symm
theorem mark_and:∀ c:BitVec 8,c<64#8→(c ||| 0#8) &&& 63#8=c∧(c ||| 64#8) &&& 63#8=c∧(c ||| 128#8) &&& 63#8=c∧(c ||| 192#8) &&& 63#8=c:=by decide +kernel
theorem mark_shr:∀ c:BitVec 8,c<64#8→((c ||| 0#8) >>> 6)=0#8∧((c ||| 64#8) >>> 6)=1#8∧((c ||| 128#8) >>> 6)=2#8∧((c ||| 192#8) >>> 6)=3#8:=by decide +kernel
theorem mark_add:∀ c:BitVec 8,c<64#8→(c ||| 0#8)=c+0#8∧(c ||| 64#8)=c+64#8∧(c ||| 128#8)=c+128#8∧(c ||| 192#8)=c+192#8:=by decide +kernel
theorem head_lt {n:BitVec 64} {k:Nat} (hk:okSz k) (h0:lenN n≠0) (h1:lenN n≤k):byteN n (k-1)<64#8∧n.toNat<64*256 ^ (k-1):=by
 have hs:=lenN_spec n
 rw [BitVec.lt_def,byteN_toNat]
 rcases hk with rfl|rfl|rfl|rfl <;> simp <;> omega
theorem take_wide {n:BitVec 64} {k:Nat} (hk:okSz k) (h0:lenN n≠0) (h1:lenN n≤k) (r:Bs):sizeT (L (wideL n k++r) 0)=k∧numT (wideL n k++r) (k-1)=n:=by
 obtain ⟨hb,hn⟩:=head_lt hk h0 h1
 have e0:∀ i,i<k→L (wideL n k++r) i=if i=0 then byteN n (k-1) ||| markB k else byteN n (k-1-i):=fun i hi=>by
  rw [L_app1 (by simpa using hi)]
  exact L_tab hi
 have a0:=mark_and _ hb
 have a1:=mark_shr _ hb
 have z:(L (wideL n k++r) 0 &&& 63#8)=byteN n (k-1)∧sizeT (L (wideL n k++r) 0)=k:=by
  rw [e0 0 (by rcases hk with rfl|rfl|rfl|rfl <;> omega),if_pos rfl]
  unfold sizeT
  rcases hk with rfl|rfl|rfl|rfl
  ·exact ⟨a0.1,by show 2 ^ ((byteN n 0 ||| 0#8) >>> 6).toNat=1; rw [a1.1]; rfl⟩
  ·exact ⟨a0.2.1,by show 2 ^ ((byteN n 1 ||| 64#8) >>> 6).toNat=2; rw [a1.2.1]; rfl⟩
  ·exact ⟨a0.2.2.1,by show 2 ^ ((byteN n 3 ||| 128#8) >>> 6).toNat=4; rw [a1.2.2.1]; rfl⟩
  ·exact ⟨a0.2.2.2,by show 2 ^ ((byteN n 7 ||| 192#8) >>> 6).toNat=8; rw [a1.2.2.2]; rfl⟩
 refine ⟨z.2,?_⟩
 have key:∀ i,i<k→(numT (wideL n k++r) i).toNat=n.toNat / 256 ^ (k-1-i):=by
  intro i hi
  induction i with
  | zero =>
   simp only [numT]
   rw [z.1,BitVec.toNat_setWidth,byteN_toNat,Nat.sub_zero]
   have hq:n.toNat / 256 ^ (k-1)<64:=Nat.div_lt_of_lt_mul (by rw [Nat.mul_comm]; exact hn)
   rw [Nat.mod_eq_of_lt (by omega:n.toNat / 256 ^ (k-1)<256),Nat.mod_eq_of_lt (by omega)]
  | succ i ih =>
   have ih:=ih (by omega)
   have hlt:n.toNat / 256 ^ (k-1-i)<2 ^ 56:=by
    have hn2:=n.isLt
    have hs:256≤256 ^ (k-1-i):=by
     have:256 ^ 1≤256 ^ (k-1-i):=Nat.pow_le_pow_right (by omega) (by omega)
     simpa using this
    have:=Nat.div_le_div_left hs (by omega:0<256) (a:=n.toNat)
    omega
   simp only [numT]
   rw [step_toNat _ _ (by rw [ih]; exact hlt),ih,e0 (i+1) hi,if_neg (by omega),byteN_toNat]
   have e:k-1-i=(k-1-(i+1))+1:=by omega
   rw [e,Nat.pow_succ,← Nat.div_div_eq_div_mul]
   omega
 apply BitVec.eq_of_toNat_eq
 have:=key (k-1) (by rcases hk with rfl|rfl|rfl|rfl <;> omega)
 simpa using this
end Vi
end
section
namespace Vi
open Sha
def takeM (l:Bs):BitVec 64 × Nat × Int:=if l.length=0∨l.length<sizeT (L l 0) then (0#64,0,3) else (numT l (sizeT (L l 0)-1),sizeT (L l 0),0)
theorem shr6:∀ c:BitVec 8,(c >>> 6).toNat<4:=by decide +kernel
theorem sizeT_le (c:BitVec 8):1≤sizeT c∧sizeT c≤8:=by
 unfold sizeT
 have:=shr6 c
 have:(c >>> 6).toNat=0∨(c >>> 6).toNat=1∨(c >>> 6).toNat=2∨(c >>> 6).toNat=3:=by omega
 rcases this with h|h|h|h <;> rw [h] <;> decide
end Vi
namespace Sx
open Sha Vi

structure Sl where
 z:Bool
 N:Nat
 o:Nat
 c:Nat
 l:Bs
structure Sl.Ok (s:Sl):Prop where
 fit:s.o+s.l.length≤s.N
 cap:s.l.length≤s.c
 nil:s.z=true→s.l=[]
 small:s.l.length≤1000000
abbrev svC (i:Nat) (s:Sl):SC:=.sn s.z i 0 s.o s.l.length s.c
abbrev svB (s:Sl):List Seg:=bts s.z s.N s.o s.l.length (L s.l)
theorem svB_row {s:Sl} (h:s.z=false):svB s=[.row s.N (winF s.o s.l.length (L s.l))]:=by unfold svB; rw [h]; rfl
theorem frc_eq {x y:SC} {k:SC→Prop} (h:x=y) (hk:frcSC y k):frcSC x k:=by rw [h]; exact hk
structure Sub (s s':Sl):Prop where
 z:s'.z=false→s.z=false
 N:s'.z=false→s.N=s'.N
 lo:s'.l≠[]→s.o≤s'.o∧s'.o+s'.l.length≤s.o+s.l.length
 at_:∀ i,i<s'.l.length→L s.l (s'.o-s.o+i)=L s'.l i
theorem Sub.ent {s s':Sl} (h:Sub s s') {q:List Nat} {k:Prop} (hk:k):eqSegs q (svB s) (svB s') k:=by
 cases hz:s'.z with
 | true=>unfold svB; rw [hz]; exact eqSegs_nil hk
 | false =>
  rw [svB_row (h.z hz),svB_row hz]
  refine ⟨h.N hz,fun j hj=>eqC_win (fun i hi=>?_) j,hk⟩
  have hne:s'.l≠[]:=fun e=>by rw [e] at hi; simp at hi
  have h1:=h.lo hne
  rw [show s'.o+i=s.o+(s'.o-s.o+i) by omega,winF_at _ _ _ (by omega),h.at_ i hi]
theorem eqSegs_sub {q:List Nat} {z0 z:Bool} {N n0 o n:Nat} {B b:Nat→BitVec 8} {k:Prop} (h:z=false→z0=false∧∀ i,i<n→o+i<n0∧B (o+i)=b i) (hk:k):eqSegs q (bts z0 N 0 n0 B) (bts z N o n b) k:=by
 cases z with
 | true=>exact eqSegs_nil hk
 | false =>
  obtain ⟨rfl,h1⟩:=h rfl
  refine ⟨rfl,fun j hj=>eqC_win (fun i hi=>?_) j,hk⟩
  have:=winF_at 0 n0 B (h1 i hi).1
  rw [Nat.zero_add] at this
  rw [this,(h1 i hi).2]
theorem fn_vlen (n:BitVec 64):Fn Try.prog tds 56 [] [.c (.w64 n)] (fun _=>True) (fun x hs=>x=.a (.c (.int .i64 (lenN n:Nat)))∧hs=[]):=by
 refine fn_of_body tds_ok follows_ Try.func56 rfl (t:=.a (.c (.w64 n))::anys (Try.f56.ntmps-1)) rfl (fun w r0 hr _=>?_)
 obtain rfl:r0=[]:=List.eq_nil_of_length_eq_zero hr
 unfold lenN
 refine ⟨fun h=>?_,fun h=>?_⟩
 ·rw [if_pos (of_decide_eq_true h)]
  exact ⟨.a (.c (.int .i64 1)),[],⟨[],⟨rfl,rfl,rfl⟩,rfl,trivial⟩,rfl,rfl⟩
 rw [if_neg (of_decide_eq_false h)]
 refine ⟨fun h=>?_,fun h=>?_⟩
 ·rw [if_pos (of_decide_eq_true h)]
  exact ⟨.a (.c (.int .i64 2)),[],⟨[],⟨rfl,rfl,rfl⟩,rfl,trivial⟩,rfl,rfl⟩
 rw [if_neg (of_decide_eq_false h)]
 refine ⟨fun h=>?_,fun h=>?_⟩
 ·rw [if_pos (of_decide_eq_true h)]
  exact ⟨.a (.c (.int .i64 4)),[],⟨[],⟨rfl,rfl,rfl⟩,rfl,trivial⟩,rfl,rfl⟩
 rw [if_neg (of_decide_eq_false h)]
 refine ⟨fun h=>?_,fun h=>?_⟩
 ·rw [if_pos (of_decide_eq_true h)]
  exact ⟨.a (.c (.int .i64 8)),[],⟨[],⟨rfl,rfl,rfl⟩,rfl,trivial⟩,rfl,rfl⟩
 rw [if_neg (of_decide_eq_false h)]
 exact ⟨.a (.c (.int .i64 0)),[],⟨[],⟨rfl,rfl,rfl⟩,rfl,trivial⟩,rfl,rfl⟩
set_option maxRecDepth 20000 in
theorem fn_vtake (s:Sl) (hs:s.Ok):FnR Try.prog tds 76 1 [svB s] [.c (svC 0 s)] (fun _=>True)
  (fun x hs=>∃ n k e,takeM s.l=(n,k,e)∧x=.tup [.c (.w64 n),.c (.int .i64 (k:Nat)),.c (.int .i64 e)]∧hs=[svB s]):=by
 obtain ⟨z,N,o,c,l⟩:=s
 obtain ⟨hN,hc,hz,_⟩:=hs
 dsimp only at hN hc hz
 show FnR _ _ _ 1 [bts z N o l.length (L l)] [.c (.sn z 0 0 o l.length c)] _ (fun x hs=>∃ n k e,takeM l=(n,k,e)∧x=.tup [.c (.w64 n),.c (.int .i64 (k:Nat)),.c (.int .i64 e)]∧hs=[bts z N o l.length (L l)])
 refine fn_of_body tds_ok follows_ Try.func76 rfl (t:=.a (.c (.sn z 0 0 o l.length c))::anys (Try.f76.ntmps-1)) rfl (fun w r0 hr _=>?_)
 obtain ⟨x0,rfl⟩:=List.length_eq_one_iff.1 hr
 by_cases h0:l.length=0
 ·have e0:decide ((l.length:Int)=0)=true:=decide_eq_true (by omega)
  (repeat first|refine And.intro (by omega) ?_|refine And.intro (by decide) ?_|refine And.intro rfl ?_|refine And.intro (fun _=>?_) (fun h=>Bool.noConfusion h)|refine And.intro (fun h=>Bool.noConfusion h) (fun _=>?_)|refine And.intro (fun _=>?_) (fun h=>absurd h (by rw [e0]; decide))|refine And.intro (fun h=>absurd h (by rw [e0]; decide)) (fun _=>?_))
  refine ⟨_,_,⟨[0],⟨rfl,rfl,rfl⟩,?_⟩,0#64,0,3,by unfold takeM; rw [if_pos (.inl h0)],rfl,rfl⟩
  (repeat first|exact trivial|refine ent1 ?_)
  refine eqC_bts ?_
  (repeat first|exact trivial|refine ent1 ?_)
 have e0:decide ((l.length:Int)=0)=false:=decide_eq_false (by omega)
 cases z with
 | true=>exact absurd (by rw [hz rfl]; rfl) h0
 | false =>
 (repeat first|refine And.intro (by omega) ?_|refine And.intro (by decide) ?_|refine And.intro rfl ?_|refine And.intro (fun _=>?_) (fun h=>Bool.noConfusion h)|refine And.intro (fun h=>Bool.noConfusion h) (fun _=>?_)|refine And.intro (fun _=>?_) (fun h=>absurd h (by rw [e0]; decide))|refine And.intro (fun h=>absurd h (by rw [e0]; decide)) (fun _=>?_))
 have hp:0<l.length:=by omega
 with_reducible refine frc_winA 0 rfl hp ?_
 obtain ⟨k,hk⟩:∃ k,sizeT (L l 0)=k:=⟨_,rfl⟩
 have hk1:=sizeT_le (L l 0)
 rw [hk] at hk1
 have ek:(1:Int)*(2:Int) ^ (L l 0 >>> 6).toNat=(k:Int):=by rw [← hk]; simp [sizeT]
 have h6:=shr6 (L l 0)
 have hb:(L l 0 >>> 6).toNat<64∧(-9223372036854775808:Int)≤(1:Int)*(2:Int) ^ (L l 0 >>> 6).toNat∧(1:Int)*(2:Int) ^ (L l 0 >>> 6).toNat≤9223372036854775807:=by rw [ek]; omega
 refine And.intro hb ?_
 rw [ek]
 by_cases h1:l.length<k
 ·have e1:decide ((l.length:Int)<(k:Nat))=true:=decide_eq_true (by omega)
  (repeat first|refine And.intro (by omega) ?_|refine And.intro (by decide) ?_|refine And.intro rfl ?_|refine And.intro (fun _=>?_) (fun h=>Bool.noConfusion h)|refine And.intro (fun h=>Bool.noConfusion h) (fun _=>?_)|refine And.intro (fun _=>?_) (fun h=>absurd h (by rw [e1]; decide))|refine And.intro (fun h=>absurd h (by rw [e1]; decide)) (fun _=>?_))
  refine ⟨_,_,⟨[0],⟨rfl,rfl,rfl⟩,?_⟩,0#64,0,3,by unfold takeM; rw [hk,if_pos (.inr h1)],rfl,rfl⟩
  (repeat first|exact trivial|refine ent1 ?_)
 have e1:decide ((l.length:Int)<(k:Nat))=false:=decide_eq_false (by omega)
 (repeat first|refine And.intro (by omega) ?_|refine And.intro (by decide) ?_|refine And.intro rfl ?_|refine And.intro (fun _=>?_) (fun h=>Bool.noConfusion h)|refine And.intro (fun h=>Bool.noConfusion h) (fun _=>?_)|refine And.intro (fun _=>?_) (fun h=>absurd h (by rw [e1]; decide))|refine And.intro (fun h=>absurd h (by rw [e1]; decide)) (fun _=>?_))
 with_reducible refine frc_winA 0 rfl hp ?_
 (repeat first|refine And.intro (by omega) ?_|refine And.intro (by decide) ?_|(with_reducible refine frc_parts (by first|omega|decide) ?_)|(with_reducible refine frc_bytesL (by first|omega|decide) ?_)|refine And.intro rfl ?_)
 obtain ⟨oo,hoo⟩:∃ oo,(if c=1 then o else o+1)=oo:=⟨_,rfl⟩
 refine frcN_of (m:=1) rfl ?_
 refine frcN_of (m:=k) (by omega) ?_
 refine frcN_of (m:=oo) hoo ?_
 refine frcN_of (m:=k-1) (by omega) ?_
 refine frcN_of (m:=c-1) (by omega) ?_
 refine .inl ⟨Nat,fun i=>⟨[.a (.c (.sn false 0 0 o l.length c)),.any,.a (.c (.w64 ((numT l i)))),.any,.any,.a (.c (.int .i64 ((k:Int)))),.any,.any,.any,.any,.any,.any,.any,.any,.any,.any,.any,.any,.any,.any,.any,.any,.any,.any,.any,.any,.any,.a (.c (.sn false 0 0 oo (k-1) (c-1))),.a (.c (.int .i64 (((k-1:Nat):Int)))),.a (.c (.int .i64 (↑i))),.any,.any,.any,.any,.any,.any,.any,.any,.any,.any,.any],[bts false N o l.length (L l)]⟩,fun i=>i≤k-1,fun i=>k-i,⟨0,[0],⟨⟨rfl,rfl,rfl⟩,?_⟩,by omega⟩,fun i hi=>⟨fun h=>?_,fun h=>?_⟩⟩
 ·(repeat first|exact trivial|refine ent1 ?_)
 ·have hlt:(i:Int)<((k-1:Nat):Int):=of_decide_eq_true h
  have ho2:oo=o+1:=by rw [← hoo,if_neg (by omega)]
  (repeat first|refine And.intro (by omega) ?_|refine And.intro (by decide) ?_|(with_reducible refine frc_parts (by first|omega|decide) ?_)|(with_reducible refine frc_bytesL (by first|omega|decide) ?_)|refine And.intro rfl ?_)
  with_reducible refine frc_winA (i+1) (by rw [ho2]; show ((i:Nat):Int).toNat+(o+1)=_; omega) (by omega) ?_
  refine ⟨⟨by omega,by omega⟩,i+1,[0],⟨⟨rfl,rfl,rfl⟩,?_⟩,by omega,by dsimp only; omega⟩
  (repeat first|exact trivial|refine ent1 ?_)
 ·have hi2:i≤k-1:=hi
  obtain rfl:i=k-1:=by have:¬ (i:Int)<((k-1:Nat):Int):=of_decide_eq_false h; omega
  (repeat first|refine And.intro (by omega) ?_|refine And.intro (by decide) ?_|(with_reducible refine frc_parts (by first|omega|decide) ?_)|(with_reducible refine frc_bytesL (by first|omega|decide) ?_)|refine And.intro rfl ?_)
  refine ⟨_,_,⟨[0],⟨rfl,rfl,rfl⟩,?_⟩,numT l (k-1),k,0,by unfold takeM; rw [hk,if_neg (by omega)],rfl,rfl⟩
  (repeat first|exact trivial|refine ent1 ?_)
end Sx
end
section
namespace Sx
open Go.RowKit

section
variable {C : Cx}
end
end Sx
end
section
namespace Sx
open Sha Vi

theorem Sl.Ok.pos {s:Sl} (h:s.Ok) (h0:0<s.l.length):s.z=false:=by
 cases e:s.z with
 | false=>rfl
 | true=>rw [h.nil e] at h0; simp at h0
theorem nil_ok:Sl.Ok ⟨true,0,0,0,[]⟩:=⟨Nat.le_refl _,Nat.le_refl _,fun _=>rfl,Nat.zero_le _⟩
theorem own_ok {l:Bs} {c:Nat} (h:l.length≤c) (hs:l.length≤1000000):Sl.Ok ⟨false,c,0,c,l⟩:=⟨by simpa using h,h,fun h=>Bool.noConfusion h,hs⟩
theorem U8_dec (a b:Bs):decide (U8 a=U8 b)=decide (a=b):=by
 by_cases h:a=b
 ·rw [h]; simp
 ·rw [decide_eq_false h,decide_eq_false fun e=>h (U8_inj e)]
set_option maxRecDepth 20000 in
theorem fn_equal (s t:Sl) (hs:s.Ok) (ht:t.Ok):FnR Try.prog tds 26 2 [svB s,svB t] [.c (svC 0 s),.c (svC 1 t)] (fun _=>True)
  (fun y hs=>y=.a (.c (.bool (decide (s.l=t.l))))∧hs=[svB s,svB t]):=by
 refine fn_of_body tds_ok follows_ Try.func26 rfl (t:=.a (.c (svC 0 s))::.a (.c (svC 1 t))::anys (Try.f26.ntmps-2)) rfl (fun w r0 hr _=>?_)
 obtain ⟨x0,x1,rfl⟩:=len2' hr
 refine sn_bts rfl hs.fit (fun h=>by rw [hs.nil h]; rfl) (fun g hg=>?_)
 refine ⟨U8 s.l,str_of rfl hg,?_⟩
 refine sn_bts rfl ht.fit (fun h=>by rw [ht.nil h]; rfl) (fun g2 hg2=>?_)
 refine ⟨U8 t.l,str_of rfl hg2,?_⟩
 refine ⟨.a (.c (.bool (decide (s.l=t.l)))),_,⟨[0,1],⟨rfl,rfl,rfl⟩,?_⟩,rfl,rfl⟩
 refine ⟨U8_dec _ _,?_⟩
 refine eqC_bts (eqC_bts ?_)
 (repeat first|exact trivial|refine ent1 ?_)
end Sx
end
section
namespace Sx
open Sha Vi

structure Pm where
 a0:BitVec 64
 a1:BitVec 64
 a2:BitVec 64
 a3:BitVec 64
 a4:BitVec 64
 a5:BitVec 64
 a6:BitVec 64
 a7:BitVec 64
 a8:BitVec 64
 s:Sl
abbrev pmC (i:Nat) (p:Pm):List Seg:=[.one (.w64 p.a0),.one (.w64 p.a1),.one (.w64 p.a2),.one (.w64 p.a3),.one (.w64 p.a4),.one (.w64 p.a5),.one (.w64 p.a6),.one (.w64 p.a7),.one (.w64 p.a8),.one (svC i p.s)]
abbrev m2 (a b:BitVec 64):BitVec 64:=if a<b then b else a
abbrev m4 (a b c d:BitVec 64):BitVec 64:=m2 (m2 (m2 a b) c) d
def checkP (p:Pm):Int :=
 if 65536#64<m4 p.a1 p.a2 p.a3 p.a4 then 2 else if 1073741824#64<p.a0 then 2 else if 16384#64≤p.a7 then 2 else if 8#64<p.a5 then 15 else if 8#64<p.a6 then 15 else
 if p.a8<2#64 then 7 else if 4#64<p.a8 then 7 else if 20<p.s.l.length then 6 else 0
set_option maxRecDepth 20000 in
set_option maxHeartbeats 4000000 in
theorem fn_pmcheck (p:Pm):FnR Try.prog tds 53 1 [svB p.s] [.agg (pmC 0 p)] (fun _=>True)
  (fun y hs=>y=.a (.c (.int .i64 (checkP p)))∧hs=[svB p.s]):=by
 refine fn_of_body tds_ok follows_ Try.func53 rfl (t:=.a (.agg (pmC 0 p))::anys (Try.f53.ntmps-1)) rfl (fun w r0 hr _=>?_)
 obtain ⟨x0,rfl⟩:=List.length_eq_one_iff.1 hr
 unfold checkP
 by_cases h1:65536#64<m4 p.a1 p.a2 p.a3 p.a4
 ·have e1:decide (65536#64<m4 p.a1 p.a2 p.a3 p.a4)=true:=decide_eq_true h1
  rw [if_pos h1]
  (repeat show _∧_;first|refine yr ?_|refine yt ?_|refine yf ?_|refine yt ?_ (by first|decide|(rw[e1];decide))|refine yf ?_ (by first|decide|(rw[e1];decide))|refine yo ?_)
  refine ⟨.a (.c (.int .i64 2)),_,⟨[0],⟨rfl,rfl,rfl⟩,?_⟩,rfl,rfl⟩
  (repeat first|exact trivial|refine ent1 ?_)
  refine eqC_bts ?_
  (repeat first|exact trivial|refine ent1 ?_)
 rw [if_neg h1]
 have e1:decide (65536#64<m4 p.a1 p.a2 p.a3 p.a4)=false:=decide_eq_false h1
 by_cases h2:1073741824#64<p.a0
 ·have e2:decide (1073741824#64<p.a0)=true:=decide_eq_true h2
  rw [if_pos h2]
  (repeat show _∧_;first|refine yr ?_|refine yt ?_|refine yf ?_|refine yt ?_ (by first|decide|(rw[e1];decide)|(rw[e2];decide))|refine yf ?_ (by first|decide|(rw[e1];decide)|(rw[e2];decide))|refine yo ?_)
  refine ⟨.a (.c (.int .i64 2)),_,⟨[0],⟨rfl,rfl,rfl⟩,?_⟩,rfl,rfl⟩
  (repeat first|exact trivial|refine ent1 ?_)
  refine eqC_bts ?_
  (repeat first|exact trivial|refine ent1 ?_)
 rw [if_neg h2]
 have e2:decide (1073741824#64<p.a0)=false:=decide_eq_false h2
 by_cases h3:16384#64≤p.a7
 ·have e3:decide (16384#64≤p.a7)=true:=decide_eq_true h3
  rw [if_pos h3]
  (repeat show _∧_;first|refine yr ?_|refine yt ?_|refine yf ?_|refine yt ?_ (by first|decide|(rw[e1];decide)|(rw[e2];decide)|(rw[e3];decide))|refine yf ?_ (by first|decide|(rw[e1];decide)|(rw[e2];decide)|(rw[e3];decide))|refine yo ?_)
  refine ⟨.a (.c (.int .i64 2)),_,⟨[0],⟨rfl,rfl,rfl⟩,?_⟩,rfl,rfl⟩
  (repeat first|exact trivial|refine ent1 ?_)
  refine eqC_bts ?_
  (repeat first|exact trivial|refine ent1 ?_)
 rw [if_neg h3]
 have e3:decide (16384#64≤p.a7)=false:=decide_eq_false h3
 by_cases h4:8#64<p.a5
 ·have e4:decide (8#64<p.a5)=true:=decide_eq_true h4
  rw [if_pos h4]
  (repeat show _∧_;first|refine yr ?_|refine yt ?_|refine yf ?_|refine yt ?_ (by first|decide|(rw[e1];decide)|(rw[e2];decide)|(rw[e3];decide)|(rw[e4];decide))|refine yf ?_ (by first|decide|(rw[e1];decide)|(rw[e2];decide)|(rw[e3];decide)|(rw[e4];decide))|refine yo ?_)
  refine ⟨.a (.c (.int .i64 15)),_,⟨[0],⟨rfl,rfl,rfl⟩,?_⟩,rfl,rfl⟩
  (repeat first|exact trivial|refine ent1 ?_)
  refine eqC_bts ?_
  (repeat first|exact trivial|refine ent1 ?_)
 rw [if_neg h4]
 have e4:decide (8#64<p.a5)=false:=decide_eq_false h4
 by_cases h5:8#64<p.a6
 ·have e5:decide (8#64<p.a6)=true:=decide_eq_true h5
  rw [if_pos h5]
  (repeat show _∧_;first|refine yr ?_|refine yt ?_|refine yf ?_|refine yt ?_ (by first|decide|(rw[e1];decide)|(rw[e2];decide)|(rw[e3];decide)|(rw[e4];decide)|(rw[e5];decide))|refine yf ?_ (by first|decide|(rw[e1];decide)|(rw[e2];decide)|(rw[e3];decide)|(rw[e4];decide)|(rw[e5];decide))|refine yo ?_)
  refine ⟨.a (.c (.int .i64 15)),_,⟨[0],⟨rfl,rfl,rfl⟩,?_⟩,rfl,rfl⟩
  (repeat first|exact trivial|refine ent1 ?_)
  refine eqC_bts ?_
  (repeat first|exact trivial|refine ent1 ?_)
 rw [if_neg h5]
 have e5:decide (8#64<p.a6)=false:=decide_eq_false h5
 by_cases h6:p.a8<2#64
 ·have e6:decide (p.a8<2#64)=true:=decide_eq_true h6
  rw [if_pos h6]
  (repeat show _∧_;first|refine yr ?_|refine yt ?_|refine yf ?_|refine yt ?_ (by first|decide|(rw[e1];decide)|(rw[e2];decide)|(rw[e3];decide)|(rw[e4];decide)|(rw[e5];decide)|(rw[e6];decide))|refine yf ?_ (by first|decide|(rw[e1];decide)|(rw[e2];decide)|(rw[e3];decide)|(rw[e4];decide)|(rw[e5];decide)|(rw[e6];decide))|refine yo ?_)
  refine ⟨.a (.c (.int .i64 7)),_,⟨[0],⟨rfl,rfl,rfl⟩,?_⟩,rfl,rfl⟩
  (repeat first|exact trivial|refine ent1 ?_)
  refine eqC_bts ?_
  (repeat first|exact trivial|refine ent1 ?_)
 rw [if_neg h6]
 have e6:decide (p.a8<2#64)=false:=decide_eq_false h6
 by_cases h7:4#64<p.a8
 ·have e7:decide (4#64<p.a8)=true:=decide_eq_true h7
  rw [if_pos h7]
  (repeat show _∧_;first|refine yr ?_|refine yt ?_|refine yf ?_|refine yt ?_ (by first|decide|(rw[e1];decide)|(rw[e2];decide)|(rw[e3];decide)|(rw[e4];decide)|(rw[e5];decide)|(rw[e6];decide)|(rw[e7];decide))|refine yf ?_ (by first|decide|(rw[e1];decide)|(rw[e2];decide)|(rw[e3];decide)|(rw[e4];decide)|(rw[e5];decide)|(rw[e6];decide)|(rw[e7];decide))|refine yo ?_)
  refine ⟨.a (.c (.int .i64 7)),_,⟨[0],⟨rfl,rfl,rfl⟩,?_⟩,rfl,rfl⟩
  (repeat first|exact trivial|refine ent1 ?_)
  refine eqC_bts ?_
  (repeat first|exact trivial|refine ent1 ?_)
 rw [if_neg h7]
 have e7:decide (4#64<p.a8)=false:=decide_eq_false h7
 by_cases h8:20<p.s.l.length
 ·have e8:decide ((20:Int)<(p.s.l.length:Int))=true:=decide_eq_true (by omega)
  rw [if_pos h8]
  (repeat show _∧_;first|refine yr ?_|refine yt ?_|refine yf ?_|refine yt ?_ (by first|decide|(rw[e1];decide)|(rw[e2];decide)|(rw[e3];decide)|(rw[e4];decide)|(rw[e5];decide)|(rw[e6];decide)|(rw[e7];decide)|(rw[e8];decide))|refine yf ?_ (by first|decide|(rw[e1];decide)|(rw[e2];decide)|(rw[e3];decide)|(rw[e4];decide)|(rw[e5];decide)|(rw[e6];decide)|(rw[e7];decide)|(rw[e8];decide))|refine yo ?_)
  refine ⟨.a (.c (.int .i64 6)),_,⟨[0],⟨rfl,rfl,rfl⟩,?_⟩,rfl,rfl⟩
  (repeat first|exact trivial|refine ent1 ?_)
  refine eqC_bts ?_
  (repeat first|exact trivial|refine ent1 ?_)
 rw [if_neg h8]
 have e8:decide ((20:Int)<(p.s.l.length:Int))=false:=decide_eq_false (by omega)
 (repeat show _∧_;first|refine yr ?_|refine yt ?_|refine yf ?_|refine yt ?_ (by first|decide|(rw[e1];decide)|(rw[e2];decide)|(rw[e3];decide)|(rw[e4];decide)|(rw[e5];decide)|(rw[e6];decide)|(rw[e7];decide)|(rw[e8];decide))|refine yf ?_ (by first|decide|(rw[e1];decide)|(rw[e2];decide)|(rw[e3];decide)|(rw[e4];decide)|(rw[e5];decide)|(rw[e6];decide)|(rw[e7];decide)|(rw[e8];decide))|refine yo ?_)
 refine ⟨.a (.c (.int .i64 0)),_,⟨[0],⟨rfl,rfl,rfl⟩,?_⟩,rfl,rfl⟩
 (repeat first|exact trivial|refine ent1 ?_)
 refine eqC_bts ?_
 (repeat first|exact trivial|refine ent1 ?_)
end Sx
end
section
namespace Vi
open Sha
def failM (l:Bs) (e x:Int):Bs × Int:=if x=0∨e≠0 then (l,e) else ([],x)
def nextM (l:Bs) (e:Int):(BitVec 64 × Nat × Bool) × Bs × Int :=
 if e≠0 then ((0#64,0,false),l,e) else
 if (takeM l).2.2≠0 then ((0#64,0,false),[],(takeM l).2.2) else (((takeM l).1,(takeM l).2.1,true),l.drop (takeM l).2.1,0)
def bytesM (l:Bs) (e many:Int):Bs × Bs × Int :=
 if e≠0 then ([],l,e) else if many<0∨(l.length:Int)<many then ([],[],3) else (l.take many.toNat,l.drop many.toNat,0)
theorem takeM_le {l:Bs} {n:BitVec 64} {k:Nat} {e:Int} (h:takeM l=(n,k,e)):k≤l.length∧(e=0→1≤k):=by
 have:=sizeT_le (L l 0)
 unfold takeM at h
 split at h
 ·simp only [Prod.mk.injEq] at h
  obtain ⟨_,rfl,rfl⟩:=h
  exact ⟨Nat.zero_le _,fun h=>by omega⟩
 ·simp only [Prod.mk.injEq] at h
  obtain ⟨_,rfl,rfl⟩:=h
  exact ⟨by omega,fun _=>by omega⟩
end Vi
namespace Sx
open Sha Vi

structure RS where
 z:Bool
 o:Nat
 n:Nat
 c:Nat
 e:Int
abbrev rdCi (i:Nat) (s:RS):List Seg:=[.one (.sn s.z i 0 s.o s.n s.c),.one (.int .i64 s.e)]
abbrev rdC (s:RS):List Seg:=rdCi 0 s
structure RdI (A:Sl) (s:RS) (l:Bs) (e:Int):Prop where
 ok:A.Ok
 o0:A.o=0
 len:s.n=l.length
 at_:∀ i,i<l.length→s.o+i<A.l.length∧L A.l (s.o+i)=L l i
 fit:s.o+l.length≤A.l.length
 cap:s.n≤s.c
 nil:s.z=true→l=[]
 z0:s.z=false→A.z=false
 err:s.e=e
 ended:e≠0→l=[]
theorem RdI.drop {A:Sl} {s:RS} {l:Bs} {e:Int} (h:RdI A s l e) {k:Nat} (hk:k≤l.length):RdI A ⟨s.z,if s.c=k then s.o else s.o+k,s.n-k,s.c-k,s.e⟩ (l.drop k) e:=by
 have hl:=h.len
 have hc:=h.cap
 have hf:=h.fit
 refine ⟨h.ok,h.o0,?_,fun i hi=>?_,?_,?_,fun hz=>?_,h.z0,h.err,fun he=>?_⟩
 ·simp [hl]
 ·simp at hi
  have h1:=h.at_ (k+i) (by omega)
  have e1:(if s.c=k then s.o else s.o+k)=s.o+k:=if_neg (by omega)
  show (if s.c=k then s.o else s.o+k)+i<_∧L A.l ((if s.c=k then s.o else s.o+k)+i)=_
  rw [e1,L_drop,Nat.add_assoc]
  exact h1
 ·show (if s.c=k then s.o else s.o+k)+_≤_
  simp
  split <;> omega
 ·show s.n-k≤s.c-k
  omega
 ·rw [h.nil hz,List.drop_nil]
 ·rw [h.ended he,List.drop_nil]
theorem RdI.gone {A:Sl} {s:RS} {l:Bs} {e:Int} (h:RdI A s l e) (x:Int):RdI A ⟨true,0,0,0,x⟩ [] x :=
 ⟨h.ok,h.o0,rfl,fun i hi=>by simp at hi,by simp,Nat.le_refl _,fun _=>rfl,fun h=>Bool.noConfusion h,rfl,fun _=>rfl⟩
theorem RdI.sl {A:Sl} {s:RS} {l:Bs} {e:Int} (h:RdI A s l e):Sl.Ok ⟨s.z,A.N,s.o,s.c,l⟩ :=
 ⟨by have h1:=h.ok.fit; have h2:=h.fit; have h3:=h.o0; show s.o+l.length≤A.N; omega,by have h1:=h.len; have h2:=h.cap; show l.length≤s.c; omega,h.nil,by have h1:=h.ok.small; have h2:=h.fit; show l.length≤_; omega⟩
theorem RdI.ent {A:Sl} {s:RS} {l:Bs} {e:Int} (h:RdI A s l e) {q:List Nat} {k:Prop} (hk:k):eqSegs q (svB A) (svB ⟨s.z,A.N,s.o,s.c,l⟩) k:=by
 have h0:=h.o0
 show eqSegs q (bts A.z A.N A.o A.l.length (L A.l)) _ k
 rw [h0]
 exact eqSegs_sub (fun hz=>⟨h.z0 hz,h.at_⟩) hk
theorem RdI.sn {A:Sl} {s:RS} {l:Bs} {e:Int} (h:RdI A s l e) {hp:List (List Seg)} {j m:Nat} {k:(Nat→SC)→Prop} (hj:getH hp j=svB A) (hm:m≤l.length)
  (hk:∀ g:Nat→SC,(∀ i,i<m→g i=.w8 (L l i))→k g):∃ f:Nat→SC,((s.z=true→m=0)∧(s.z=false→SnAt hp j 0 s.o m 1 f))∧k f:=by
 refine ⟨fun i=>.w8 (L l i),⟨fun hz=>?_,fun hz=>?_⟩,hk _ fun _ _=>rfl⟩
 ·have:=h.nil hz; subst this; simpa using hm
 ·have hz':=h.z0 hz
  have hf:=h.fit
  have hN:=h.ok.fit
  have ho:=h.o0
  refine ⟨A.N,winF A.o A.l.length (L A.l),[],by rw [hj]; unfold svB; rw [hz']; rfl,by show s.o+m≤A.N; omega,fun q hq=>?_⟩
  have hq:q<m:=hq
  have h1:=h.at_ q (by omega)
  show SC.w8 (L l q)=_
  rw [ho,← h1.2,Nat.add_comm q s.o]
  have:=winF_at 0 A.l.length (L A.l) h1.1
  rw [Nat.zero_add] at this
  exact this.symm
set_option maxRecDepth 20000 in
theorem fn_rfail (A:Sl) (s:RS) (x:Int) {l:Bs} {e:Int} (hr:RdI A s l e):FnR Try.prog tds 58 1 [svB A,rdC s] [.c (.p 1 0 0),.c (.int .i64 x)] (fun _=>True)
  (fun y hs=>∃ s' l' e',failM l e x=(l',e')∧RdI A s' l' e'∧y=.tup []∧hs=[svB A,rdC s']):=by
 refine fn_of_body tds_ok follows_ Try.func58 rfl (t:=.a (.c (.p 1 0 0))::.a (.c (.int .i64 x))::anys (Try.f58.ntmps-2)) rfl (fun w r0 hr0 _=>?_)
 obtain ⟨x0,x1,rfl⟩:=len2' hr0
 have he:=hr.err
 by_cases h1:x=0
 ·have e1:decide (x=0)=true:=decide_eq_true h1
  (repeat first|refine And.intro (by omega) ?_|refine And.intro (by decide) ?_|refine And.intro rfl ?_|refine And.intro (fun _=>?_) (fun h=>Bool.noConfusion h)|refine And.intro (fun h=>Bool.noConfusion h) (fun _=>?_)|refine And.intro (fun _=>?_) (fun h=>absurd h (by rw [e1]; decide))|refine And.intro (fun h=>absurd h (by rw [e1]; decide)) (fun _=>?_))
  refine ⟨.tup [],_,⟨[0,1],⟨rfl,rfl,rfl⟩,?_⟩,s,l,e,by unfold failM; rw [if_pos (.inl h1)],hr,rfl,rfl⟩
  refine eqC_bts ?_
  (repeat first|exact trivial|refine ent1 ?_)
 have e1:decide (x=0)=false:=decide_eq_false h1
 by_cases h2:s.e=0
 ·have e2:decide (s.e≠0)=false:=decide_eq_false (by omega)
  (repeat first|refine And.intro (by omega) ?_|refine And.intro (by decide) ?_|refine And.intro rfl ?_|refine And.intro (fun _=>?_) (fun h=>Bool.noConfusion h)|refine And.intro (fun h=>Bool.noConfusion h) (fun _=>?_)|refine And.intro (fun _=>?_) (fun h=>absurd h (by rw [e1]; decide))|refine And.intro (fun h=>absurd h (by rw [e1]; decide)) (fun _=>?_)|refine And.intro (fun _=>?_) (fun h=>absurd h (by rw [e2]; decide))|refine And.intro (fun h=>absurd h (by rw [e2]; decide)) (fun _=>?_))
  refine ⟨.tup [],_,⟨[0,1],⟨rfl,rfl,rfl⟩,?_⟩,_,[],x,by unfold failM; rw [if_neg (by omega)],hr.gone x,rfl,rfl⟩
  refine eqC_bts ?_
  (repeat first|exact trivial|refine ent1 ?_)
 ·have e2:decide (s.e≠0)=true:=decide_eq_true h2
  (repeat first|refine And.intro (by omega) ?_|refine And.intro (by decide) ?_|refine And.intro rfl ?_|refine And.intro (fun _=>?_) (fun h=>Bool.noConfusion h)|refine And.intro (fun h=>Bool.noConfusion h) (fun _=>?_)|refine And.intro (fun _=>?_) (fun h=>absurd h (by rw [e1]; decide))|refine And.intro (fun h=>absurd h (by rw [e1]; decide)) (fun _=>?_)|refine And.intro (fun _=>?_) (fun h=>absurd h (by rw [e2]; decide))|refine And.intro (fun h=>absurd h (by rw [e2]; decide)) (fun _=>?_))
  refine ⟨.tup [],_,⟨[0,1],⟨rfl,rfl,rfl⟩,?_⟩,s,l,e,by unfold failM; rw [if_pos (.inr (by omega))],hr,rfl,rfl⟩
  refine eqC_bts ?_
  (repeat first|exact trivial|refine ent1 ?_)
theorem fn_rerr (A:Sl) (s:RS) {l:Bs} {e:Int} (hr:RdI A s l e):FnR Try.prog tds 45 1 [svB A,rdC s] [.c (.p 1 0 0)] (fun _=>True)
  (fun y hs=>y=.a (.c (.int .i64 e))∧hs=[svB A,rdC s]):=by
 refine fn_of_body tds_ok follows_ Try.func45 rfl (t:=.a (.c (.p 1 0 0))::anys (Try.f45.ntmps-1)) rfl (fun w r0 hr0 _=>?_)
 obtain ⟨x0,x1,rfl⟩:=len2' hr0
 (repeat first|refine And.intro (by omega) ?_|refine And.intro (by decide) ?_|refine And.intro rfl ?_|refine And.intro (fun _=>?_) (fun h=>Bool.noConfusion h)|refine And.intro (fun h=>Bool.noConfusion h) (fun _=>?_))
 refine ⟨.a (.c (.int .i64 e)),_,⟨[0,1],⟨rfl,rfl,rfl⟩,?_⟩,rfl,rfl⟩
 refine ⟨hr.err,?_⟩
 refine eqC_bts ?_
 (repeat first|exact trivial|refine ent1 ?_)
theorem fn_rleft (A:Sl) (s:RS) {l:Bs} {e:Int} (hr:RdI A s l e):FnR Try.prog tds 60 1 [svB A,rdC s] [.c (.p 1 0 0)] (fun _=>True)
  (fun y hs=>y=.a (.c (.int .i64 (l.length:Nat)))∧hs=[svB A,rdC s]):=by
 refine fn_of_body tds_ok follows_ Try.func60 rfl (t:=.a (.c (.p 1 0 0))::anys (Try.f60.ntmps-1)) rfl (fun w r0 hr0 _=>?_)
 obtain ⟨x0,x1,rfl⟩:=len2' hr0
 (repeat first|refine And.intro (by omega) ?_|refine And.intro (by decide) ?_|refine And.intro rfl ?_|refine And.intro (fun _=>?_) (fun h=>Bool.noConfusion h)|refine And.intro (fun h=>Bool.noConfusion h) (fun _=>?_))
 refine ⟨.a (.c (.int .i64 (l.length:Nat))),_,⟨[0,1],⟨rfl,rfl,rfl⟩,?_⟩,rfl,rfl⟩
 refine ⟨congrArg (fun n:Nat=>(n:Int)) hr.len,?_⟩
 refine eqC_bts ?_
 (repeat first|exact trivial|refine ent1 ?_)
set_option maxRecDepth 20000 in
theorem fn_rnext (A:Sl) (s:RS) {l:Bs} {e:Int} (hr:RdI A s l e):FnR Try.prog tds 68 1 [svB A,rdC s] [.c (.p 1 0 0)] (fun _=>True)
  (fun y hs=>∃ n k b s' l' e',nextM l e=((n,k,b),l',e')∧RdI A s' l' e'∧y=.tup [.c (.w64 n),.c (.int .i64 (k:Nat)),.c (.bool b)]∧hs=[svB A,rdC s']):=by
 refine fn_of_body tds_ok follows_ Try.func68 rfl (t:=.a (.c (.p 1 0 0))::anys (Try.f68.ntmps-1)) rfl (fun w r0 hr0 _=>?_)
 obtain ⟨x0,x1,rfl⟩:=len2' hr0
 have he:=hr.err
 by_cases h2:s.e=0
 ·have e2:decide (s.e≠0)=false:=decide_eq_false (by omega)
  (repeat first|refine And.intro (by omega) ?_|refine And.intro (by decide) ?_|refine And.intro rfl ?_|refine And.intro (fun _=>?_) (fun h=>Bool.noConfusion h)|refine And.intro (fun h=>Bool.noConfusion h) (fun _=>?_)|refine And.intro (fun _=>?_) (fun h=>absurd h (by rw [e2]; decide))|refine And.intro (fun h=>absurd h (by rw [e2]; decide)) (fun _=>?_))
  have hlen:=hr.len
  have hcap:=hr.cap
  refine call_same (fn_vtake _ hr.sl) [0] rfl ⟨rfl,rfl,hlen,rfl,trivial⟩ (hr.ent trivial) (fun _ _=>trivial) ?_
  rintro x hs ⟨n,k,f,ht,rfl,rfl⟩
  have ht:takeM l=(n,k,f):=ht
  have hk:=takeM_le ht
  by_cases h3:f=0
  ·have e3:decide (f≠0)=false:=decide_eq_false (by omega)
   (repeat first|refine And.intro (by omega) ?_|refine And.intro (by decide) ?_|refine And.intro rfl ?_|refine And.intro (fun _=>?_) (fun h=>Bool.noConfusion h)|refine And.intro (fun h=>Bool.noConfusion h) (fun _=>?_)|refine And.intro (fun _=>?_) (fun h=>absurd h (by rw [e3]; decide))|refine And.intro (fun h=>absurd h (by rw [e3]; decide)) (fun _=>?_))
   refine ⟨.tup [.c (.w64 n),.c (.int .i64 (k:Nat)),.c (.bool true)],_,⟨[0,1],⟨rfl,rfl,rfl⟩,?_⟩,n,k,true,_,l.drop k,e,?_,hr.drop hk.1,rfl,rfl⟩
   ·(repeat first|exact trivial|refine ent1 ?_)
    refine eqC_bts ?_
    refine ⟨rfl,?_,?_⟩
    rotate_left
    ·(repeat first|exact trivial|refine ent1 ?_)
    show (if s.c=k then s.o else s.o+k*1)=(if s.c=k then s.o else s.o+k)
    rw [Nat.mul_one]
   ·unfold nextM
    rw [if_neg (by omega),ht,if_neg (by simpa using h3)]
    simp; omega
  have e3:decide (f≠0)=true:=decide_eq_true h3
  (repeat first|refine And.intro (by omega) ?_|refine And.intro (by decide) ?_|refine And.intro rfl ?_|refine And.intro (fun _=>?_) (fun h=>Bool.noConfusion h)|refine And.intro (fun h=>Bool.noConfusion h) (fun _=>?_)|refine And.intro (fun _=>?_) (fun h=>absurd h (by rw [e3]; decide))|refine And.intro (fun h=>absurd h (by rw [e3]; decide)) (fun _=>?_))
  refine call_same (fn_rfail A s f hr) [0,1] rfl (by (repeat first|exact trivial|refine ent1 ?_)) ?_ (fun _ _=>trivial) ?_
  ·refine eqC_bts ?_
   (repeat first|exact trivial|refine ent1 ?_)
  rintro x hs ⟨s',l',e',hf,hr',rfl,rfl⟩
  refine ⟨.tup [.c (.w64 0#64),.c (.int .i64 0),.c (.bool false)],_,⟨[0,1],⟨rfl,rfl,rfl⟩,?_⟩,0#64,0,false,s',l',e',?_,hr',rfl,rfl⟩
  ·(repeat first|exact trivial|refine ent1 ?_)
   refine eqC_bts ?_
   (repeat first|exact trivial|refine ent1 ?_)
  ·unfold failM at hf
   rw [if_neg (by omega)] at hf
   unfold nextM
   rw [if_neg (by omega),ht,if_pos h3]
   simp only [Prod.mk.injEq] at hf
   obtain ⟨rfl,rfl⟩:=hf
   rfl
 ·have e2:decide (s.e≠0)=true:=decide_eq_true h2
  (repeat first|refine And.intro (by omega) ?_|refine And.intro (by decide) ?_|refine And.intro rfl ?_|refine And.intro (fun _=>?_) (fun h=>Bool.noConfusion h)|refine And.intro (fun h=>Bool.noConfusion h) (fun _=>?_)|refine And.intro (fun _=>?_) (fun h=>absurd h (by rw [e2]; decide))|refine And.intro (fun h=>absurd h (by rw [e2]; decide)) (fun _=>?_))
  refine ⟨.tup [.c (.w64 0#64),.c (.int .i64 0),.c (.bool false)],_,⟨[0,1],⟨rfl,rfl,rfl⟩,?_⟩,0#64,0,false,s,l,e,by unfold nextM; rw [if_pos (by omega)],hr,rfl,rfl⟩
  (repeat first|exact trivial|refine ent1 ?_)
  refine eqC_bts ?_
  (repeat first|exact trivial|refine ent1 ?_)
set_option maxRecDepth 20000 in
theorem fn_rint (A:Sl) (s:RS) {l:Bs} {e:Int} (hr:RdI A s l e):FnR Try.prog tds 61 1 [svB A,rdC s] [.c (.p 1 0 0)] (fun _=>True)
  (fun y hs=>∃ n k b s' l' e',nextM l e=((n,k,b),l',e')∧RdI A s' l' e'∧y=.a (.c (.w64 n))∧hs=[svB A,rdC s']):=by
 refine fn_of_body tds_ok follows_ Try.func61 rfl (t:=.a (.c (.p 1 0 0))::anys (Try.f61.ntmps-1)) rfl (fun w r0 hr0 _=>?_)
 obtain ⟨x0,x1,rfl⟩:=len2' hr0
 (repeat first|refine And.intro (by omega) ?_|refine And.intro (by decide) ?_|(with_reducible refine frc_parts (by first|omega|decide) ?_)|(with_reducible refine frc_bytesL (by first|omega|decide) ?_)|refine And.intro rfl ?_)
 refine call_same (fn_rnext A s hr) [0,1] rfl (by (repeat first|exact trivial|refine ent1 ?_)) ?_ (fun _ _=>trivial) ?_
 ·refine eqC_bts ?_
  (repeat first|exact trivial|refine ent1 ?_)
 rintro x hs ⟨n,k,b,s',l',e',hm,hr',rfl,rfl⟩
 refine ⟨.a (.c (.w64 n)),_,⟨[0,1],⟨rfl,rfl,rfl⟩,?_⟩,n,k,b,s',l',e',hm,hr',rfl,rfl⟩
 (repeat first|exact trivial|refine ent1 ?_)
 refine eqC_bts ?_
 (repeat first|exact trivial|refine ent1 ?_)
set_option maxRecDepth 20000 in
theorem fn_rbytes (A:Sl) (s:RS) (many:Int) {l:Bs} {e:Int} (hr:RdI A s l e):FnR Try.prog tds 43 1 [svB A,rdC s] [.c (.p 1 0 0),.c (.int .i64 many)] (fun _=>True)
  (fun y hs=>∃ t s' l' e',bytesM l e many=(t.l,l',e')∧RdI A s' l' e'∧t.Ok∧y=.a (.c (svC 2 t))∧hs=[svB A,rdC s',svB t]):=by
 refine fn_of_body tds_ok follows_ Try.func43 rfl (t:=.a (.c (.p 1 0 0))::.a (.c (.int .i64 many))::anys (Try.f43.ntmps-2)) rfl (fun w r0 hr0 _=>?_)
 obtain ⟨x0,x1,rfl⟩:=len2' hr0
 have he:=hr.err
 by_cases h2:s.e=0
 ·have e2:decide (s.e≠0)=false:=decide_eq_false (by omega)
  have hlen:=hr.len
  have hcap:=hr.cap
  by_cases h3:many<0
  ·have e3:decide (many<0)=true:=decide_eq_true h3
   (repeat first|refine And.intro (by omega) ?_|refine And.intro (by decide) ?_|refine And.intro rfl ?_|refine And.intro (fun _=>?_) (fun h=>Bool.noConfusion h)|refine And.intro (fun h=>Bool.noConfusion h) (fun _=>?_)|refine And.intro (fun _=>?_) (fun h=>absurd h (by rw [e2]; decide))|refine And.intro (fun h=>absurd h (by rw [e2]; decide)) (fun _=>?_)|refine And.intro (fun _=>?_) (fun h=>absurd h (by rw [e3]; decide))|refine And.intro (fun h=>absurd h (by rw [e3]; decide)) (fun _=>?_))
   refine call_same (fn_rfail A s 3 hr) [0,1] rfl (by (repeat first|exact trivial|refine ent1 ?_)) ?_ (fun _ _=>trivial) ?_
   ·refine eqC_bts ?_
    (repeat first|exact trivial|refine ent1 ?_)
   rintro x hs ⟨s',l',e',hf,hr',rfl,rfl⟩
   refine ⟨.a (.c (svC 2 ⟨true,0,0,0,[]⟩)),_,⟨[0,1,1],⟨rfl,rfl,rfl⟩,?_⟩,⟨true,0,0,0,[]⟩,s',l',e',?_,hr',⟨Nat.le_refl _,Nat.le_refl _,fun _=>rfl,Nat.zero_le _⟩,rfl,rfl⟩
   ·(repeat first|exact trivial|refine ent1 ?_)
    refine eqC_bts ?_
    (repeat first|exact trivial|refine ent1 ?_)
   ·unfold failM at hf
    rw [if_neg (by omega)] at hf
    simp only [Prod.mk.injEq] at hf
    obtain ⟨rfl,rfl⟩:=hf
    unfold bytesM
    rw [if_neg (by omega),if_pos (by omega)]
  have e3:decide (many<0)=false:=decide_eq_false h3
  by_cases h4:(s.n:Int)<many
  ·have e4:decide ((s.n:Int)<many)=true:=decide_eq_true h4
   (repeat first|refine And.intro (by omega) ?_|refine And.intro (by decide) ?_|refine And.intro rfl ?_|refine And.intro (fun _=>?_) (fun h=>Bool.noConfusion h)|refine And.intro (fun h=>Bool.noConfusion h) (fun _=>?_)|refine And.intro (fun _=>?_) (fun h=>absurd h (by rw [e2]; decide))|refine And.intro (fun h=>absurd h (by rw [e2]; decide)) (fun _=>?_)|refine And.intro (fun _=>?_) (fun h=>absurd h (by rw [e3]; decide))|refine And.intro (fun h=>absurd h (by rw [e3]; decide)) (fun _=>?_)|refine And.intro (fun _=>?_) (fun h=>absurd h (by rw [e4]; decide))|refine And.intro (fun h=>absurd h (by rw [e4]; decide)) (fun _=>?_))
   refine call_same (fn_rfail A s 3 hr) [0,1] rfl (by (repeat first|exact trivial|refine ent1 ?_)) ?_ (fun _ _=>trivial) ?_
   ·refine eqC_bts ?_
    (repeat first|exact trivial|refine ent1 ?_)
   rintro x hs ⟨s',l',e',hf,hr',rfl,rfl⟩
   refine ⟨.a (.c (svC 2 ⟨true,0,0,0,[]⟩)),_,⟨[0,1,1],⟨rfl,rfl,rfl⟩,?_⟩,⟨true,0,0,0,[]⟩,s',l',e',?_,hr',⟨Nat.le_refl _,Nat.le_refl _,fun _=>rfl,Nat.zero_le _⟩,rfl,rfl⟩
   ·(repeat first|exact trivial|refine ent1 ?_)
    refine eqC_bts ?_
    (repeat first|exact trivial|refine ent1 ?_)
   ·unfold failM at hf
    rw [if_neg (by omega)] at hf
    simp only [Prod.mk.injEq] at hf
    obtain ⟨rfl,rfl⟩:=hf
    unfold bytesM
    rw [if_neg (by omega),if_pos (by omega)]
  have e4:decide ((s.n:Int)<many)=false:=decide_eq_false h4
  obtain ⟨m,rfl⟩:∃ m:Nat,many=m:=⟨many.toNat,by omega⟩
  (repeat first|refine And.intro (by omega) ?_|refine And.intro (by decide) ?_|refine And.intro rfl ?_|refine And.intro (fun _=>?_) (fun h=>Bool.noConfusion h)|refine And.intro (fun h=>Bool.noConfusion h) (fun _=>?_)|refine And.intro (fun _=>?_) (fun h=>absurd h (by rw [e2]; decide))|refine And.intro (fun h=>absurd h (by rw [e2]; decide)) (fun _=>?_)|refine And.intro (fun _=>?_) (fun h=>absurd h (by rw [e3]; decide))|refine And.intro (fun h=>absurd h (by rw [e3]; decide)) (fun _=>?_)|refine And.intro (fun _=>?_) (fun h=>absurd h (by rw [e4]; decide))|refine And.intro (fun h=>absurd h (by rw [e4]; decide)) (fun _=>?_))
  refine frcN_of (m:=0) rfl ?_
  refine frcN_of (m:=m) rfl ?_
  refine frcN_of (m:=s.o) (by split <;> simp) ?_
  refine frcN_of (m:=m) rfl ?_
  refine frcN_of (m:=s.c) rfl ?_
  refine hr.sn rfl (by omega) (fun g hg=>?_)
  have hsm:=hr.ok.small
  have hft:=hr.fit
  refine ⟨⟨rfl,rfl⟩,by show m*1≤140737488355328; omega,fun hm0=>?_,fun hm0 c' hc'=>?_⟩
  ·subst hm0
   (repeat first|refine And.intro (by omega) ?_|refine And.intro (by decide) ?_|refine And.intro rfl ?_|refine And.intro (fun _=>?_) (fun h=>Bool.noConfusion h)|refine And.intro (fun h=>Bool.noConfusion h) (fun _=>?_))
   refine ⟨.a (.c (svC 2 ⟨true,0,0,0,[]⟩)),_,⟨[0,1,1],⟨rfl,rfl,rfl⟩,?_⟩,⟨true,0,0,0,[]⟩,_,l.drop 0,e,?_,hr.drop (Nat.zero_le _),⟨Nat.le_refl _,Nat.le_refl _,fun _=>rfl,Nat.zero_le _⟩,rfl,rfl⟩
   ·(repeat first|exact trivial|refine ent1 ?_)
    refine eqC_bts ?_
    (repeat first|exact trivial|refine ent1 ?_)
   ·unfold bytesM
    rw [if_neg (by omega),if_neg (by omega)]
    simp; omega
  ·(repeat first|refine And.intro (by omega) ?_|refine And.intro (by decide) ?_|refine And.intro rfl ?_|refine And.intro (fun _=>?_) (fun h=>Bool.noConfusion h)|refine And.intro (fun h=>Bool.noConfusion h) (fun _=>?_))
   refine ⟨.a (.c (svC 2 ⟨false,c',0,c',l.take m⟩)),_,⟨[0,1,2],⟨rfl,rfl,rfl⟩,?_⟩,⟨false,c',0,c',l.take m⟩,_,l.drop m,e,?_,hr.drop (by omega),⟨by simp; omega,by simp; omega,fun h=>Bool.noConfusion h,by simp; omega⟩,rfl,rfl⟩
   ·(repeat first|exact trivial|refine ent1 ?_)
    refine ⟨by simp; omega,rfl,?_⟩
    refine eqC_bts ?_
    refine ⟨rfl,?_,?_⟩
    ·show (if s.c=m then s.o else s.o+m*1)=(if s.c=m then s.o else s.o+m)
     rw [Nat.mul_one]
    (repeat first|exact trivial|refine ent1 ?_)
    refine ⟨fun j hj=>eqC_win0 (fun i hi=>?_) j,trivial⟩
    have hi:i<m:=by have:i<(l.take m).length:=hi; simp at this; omega
    exact new_row (fun i hi=>by rw [hg i hi,L_take _ _ _ hi]) i hi
   ·unfold bytesM
    rw [if_neg (by omega),if_neg (by omega)]
    simp; omega
 ·have e2:decide (s.e≠0)=true:=decide_eq_true h2
  (repeat first|refine And.intro (by omega) ?_|refine And.intro (by decide) ?_|refine And.intro rfl ?_|refine And.intro (fun _=>?_) (fun h=>Bool.noConfusion h)|refine And.intro (fun h=>Bool.noConfusion h) (fun _=>?_)|refine And.intro (fun _=>?_) (fun h=>absurd h (by rw [e2]; decide))|refine And.intro (fun h=>absurd h (by rw [e2]; decide)) (fun _=>?_))
  refine ⟨.a (.c (svC 2 ⟨true,0,0,0,[]⟩)),_,⟨[0,1,1],⟨rfl,rfl,rfl⟩,?_⟩,⟨true,0,0,0,[]⟩,s,l,e,by unfold bytesM; rw [if_pos (by omega)],hr,⟨Nat.le_refl _,Nat.le_refl _,fun _=>rfl,Nat.zero_le _⟩,rfl,rfl⟩
  (repeat first|exact trivial|refine ent1 ?_)
  refine eqC_bts ?_
  (repeat first|exact trivial|refine ent1 ?_)
end Sx
end
section
namespace Vi
open Sha
def countM (l:Bs) (e:Int) (most:Nat):Nat × Bs × Int:=match nextM l e with
 | ((n,_,b),l',e')=>if b=false then (0,l',e') else if most<n.toNat then (0,[],2) else (n.toNat,l',e')
def longM (l:Bs) (e:Int) (most:Nat):Bs × Bs × Int:=match countM l e most with
 | (n,l',e')=>bytesM l' e' (n:Int)
def endM (l:Bs) (e:Int):Bs × Int:=if 0<l.length then failM l e 24 else (l,e)
theorem nextM_e {l l':Bs} {e e':Int} {n:BitVec 64} {k:Nat} {b:Bool} (h:nextM l e=((n,k,b),l',e')):(b=true→e'=0)∧(b=false→e'≠0∧n=0#64):=by
 unfold nextM at h
 split at h
 ·simp only [Prod.mk.injEq] at h
  obtain ⟨⟨rfl,rfl,rfl⟩,rfl,rfl⟩:=h
  exact ⟨fun h=>Bool.noConfusion h,fun _=>⟨by assumption,rfl⟩⟩
 ·split at h
  ·simp only [Prod.mk.injEq] at h
   obtain ⟨⟨rfl,rfl,rfl⟩,rfl,rfl⟩:=h
   exact ⟨fun h=>Bool.noConfusion h,fun _=>⟨by assumption,rfl⟩⟩
  ·simp only [Prod.mk.injEq] at h
   obtain ⟨⟨rfl,rfl,rfl⟩,rfl,rfl⟩:=h
   exact ⟨fun _=>rfl,fun h=>Bool.noConfusion h⟩
end Vi
namespace Sx
open Sha Vi

set_option maxRecDepth 20000 in
theorem fn_vread (s:Sl) (hs:s.Ok):FnR Try.prog tds 42 1 [svB s] [.c (svC 0 s)] (fun _=>True)
  (fun y hs=>∃ A r,A.l=s.l∧RdI A r s.l 0∧y=.a (.c (.p 1 0 0))∧hs=[svB s,rdCi 2 r,svB A]):=by
 obtain ⟨z,N,o,c,l⟩:=s
 obtain ⟨hN,hc,hz,hsm⟩:=hs
 dsimp only at hN hc hz hsm
 show FnR _ _ _ 1 [bts z N o l.length (L l)] [.c (.sn z 0 0 o l.length c)] _ (fun y hs=>∃ A r,A.l=l∧RdI A r l 0∧y=.a (.c (.p 1 0 0))∧hs=[bts z N o l.length (L l),rdCi 2 r,svB A])
 refine fn_of_body tds_ok follows_ Try.func42 rfl (t:=.a (.c (.sn z 0 0 o l.length c))::anys (Try.f42.ntmps-1)) rfl (fun w r0 hr _=>?_)
 obtain ⟨x0,rfl⟩:=List.length_eq_one_iff.1 hr
 refine sn_bts rfl hN (fun h=>by rw [hz h]; rfl) (fun g hg=>?_)
 refine ⟨⟨rfl,rfl⟩,by show l.length*1≤140737488355328; omega,fun hm0=>?_,fun hm0 c' hc'=>?_⟩
 ·obtain rfl:l=[]:=List.eq_nil_of_length_eq_zero hm0
  (repeat first|refine And.intro (by omega) ?_|refine And.intro (by decide) ?_|refine And.intro rfl ?_|refine And.intro (fun _=>?_) (fun h=>Bool.noConfusion h)|refine And.intro (fun h=>Bool.noConfusion h) (fun _=>?_))
  refine ⟨.a (.c (.p 1 0 0)),_,⟨[0,1,1],⟨rfl,rfl,rfl⟩,?_⟩,⟨true,0,0,0,[]⟩,⟨true,0,0,0,0⟩,rfl,⟨⟨Nat.le_refl _,Nat.le_refl _,fun _=>rfl,Nat.zero_le _⟩,rfl,rfl,fun i hi=>by simp at hi,Nat.le_refl _,Nat.le_refl _,fun _=>rfl,fun h=>Bool.noConfusion h,rfl,fun _=>rfl⟩,rfl,rfl⟩
  (repeat first|exact trivial|refine ent1 ?_)
  refine eqC_bts ?_
  (repeat first|exact trivial|refine ent1 ?_)
 ·(repeat first|refine And.intro (by omega) ?_|refine And.intro (by decide) ?_|refine And.intro rfl ?_|refine And.intro (fun _=>?_) (fun h=>Bool.noConfusion h)|refine And.intro (fun h=>Bool.noConfusion h) (fun _=>?_))
  refine ⟨.a (.c (.p 1 0 0)),_,⟨[0,2,1],⟨rfl,rfl,rfl⟩,?_⟩,⟨false,c',0,c',l⟩,⟨false,0,l.length,c',0⟩,rfl,⟨⟨by dsimp only; omega,hc',fun h=>Bool.noConfusion h,hsm⟩,rfl,rfl,fun i hi=>by simp; omega,by simp,hc',fun h=>Bool.noConfusion h,fun _=>rfl,rfl,fun h=>absurd rfl h⟩,rfl,rfl⟩
  (repeat first|exact trivial|refine ent1 ?_)
  refine eqC_bts ?_
  (repeat first|exact trivial|refine ent1 ?_)
  exact ⟨fun j hj=>eqC_win0 (fun i hi=>new_row hg i hi) j,trivial⟩
set_option maxRecDepth 20000 in
theorem fn_rcount (A:Sl) (s:RS) (most:Nat) {l:Bs} {e:Int} (hr:RdI A s l e) (hm:most≤1000000):FnR Try.prog tds 59 1 [svB A,rdC s] [.c (.p 1 0 0),.c (.int .i64 (most:Nat))] (fun _=>True)
  (fun y hs=>∃ n s' l' e',countM l e most=(n,l',e')∧RdI A s' l' e'∧y=.a (.c (.int .i64 (n:Nat)))∧hs=[svB A,rdC s']):=by
 refine fn_of_body tds_ok follows_ Try.func59 rfl (t:=.a (.c (.p 1 0 0))::.a (.c (.int .i64 (most:Nat)))::anys (Try.f59.ntmps-2)) rfl (fun w r0 hr0 _=>?_)
 obtain ⟨x0,x1,rfl⟩:=len2' hr0
 (repeat first|refine And.intro (by omega) ?_|refine And.intro (by decide) ?_|(with_reducible refine frc_parts (by first|omega|decide) ?_)|(with_reducible refine frc_bytesL (by first|omega|decide) ?_)|refine And.intro rfl ?_)
 refine call_same (fn_rnext A s hr) [0,1] rfl (by (repeat first|exact trivial|refine ent1 ?_)) ?_ (fun _ _=>trivial) ?_
 ·refine eqC_bts ?_
  (repeat first|exact trivial|refine ent1 ?_)
 rintro x hs ⟨n,k,b,s',l',e',hx,hr',rfl,rfl⟩
 have he:=nextM_e hx
 cases b with
 | false =>
  (repeat first|refine And.intro (by omega) ?_|refine And.intro (by decide) ?_|refine And.intro rfl ?_|refine And.intro (fun _=>?_) (fun h=>Bool.noConfusion h)|refine And.intro (fun h=>Bool.noConfusion h) (fun _=>?_))
  refine ⟨.a (.c (.int .i64 (0:Nat))),_,⟨[0,1],⟨rfl,rfl,rfl⟩,?_⟩,0,s',l',e',by unfold countM; rw [hx]; rfl,hr',rfl,rfl⟩
  (repeat first|exact trivial|refine ent1 ?_)
  refine eqC_bts ?_
  (repeat first|exact trivial|refine ent1 ?_)
 | true =>
 have ew:(BitVec.ofInt 64 (if (most:Int)<0 then 0 else (most:Int))).toNat=most:=by
  rw [if_neg (by omega),BitVec.ofInt_natCast,BitVec.toNat_ofNat,Nat.mod_eq_of_lt (by omega)]
 by_cases h1:most<n.toNat
 ·have e1:decide (BitVec.ofInt 64 (if (most:Int)<0 then 0 else (most:Int))<n)=true:=decide_eq_true (by rw [BitVec.lt_def,ew]; exact h1)
  (repeat first|refine And.intro (by omega) ?_|refine And.intro (by decide) ?_|refine And.intro rfl ?_|refine And.intro (fun _=>?_) (fun h=>Bool.noConfusion h)|refine And.intro (fun h=>Bool.noConfusion h) (fun _=>?_)|refine And.intro (fun _=>?_) (fun h=>absurd h (by rw [e1]; decide))|refine And.intro (fun h=>absurd h (by rw [e1]; decide)) (fun _=>?_))
  refine call_same (fn_rfail A s' 2 hr') [0,1] rfl (by (repeat first|exact trivial|refine ent1 ?_)) ?_ (fun _ _=>trivial) ?_
  ·refine eqC_bts ?_
   (repeat first|exact trivial|refine ent1 ?_)
  rintro x hs ⟨s2,l2,e2,hf,hr2,rfl,rfl⟩
  refine ⟨.a (.c (.int .i64 (0:Nat))),_,⟨[0,1],⟨rfl,rfl,rfl⟩,?_⟩,0,s2,l2,e2,?_,hr2,rfl,rfl⟩
  ·(repeat first|exact trivial|refine ent1 ?_)
   refine eqC_bts ?_
   (repeat first|exact trivial|refine ent1 ?_)
  ·unfold failM at hf
   rw [if_neg (by have:=he.1 rfl; omega)] at hf
   simp only [Prod.mk.injEq] at hf
   obtain ⟨rfl,rfl⟩:=hf
   unfold countM
   rw [hx]
   show (if true=false then _ else if most<n.toNat then _ else _)=_
   rw [if_neg (by decide),if_pos h1]
 ·have e1:decide (BitVec.ofInt 64 (if (most:Int)<0 then 0 else (most:Int))<n)=false:=decide_eq_false (by rw [BitVec.lt_def,ew]; exact h1)
  (repeat first|refine And.intro (by omega) ?_|refine And.intro (by decide) ?_|refine And.intro rfl ?_|refine And.intro (fun _=>?_) (fun h=>Bool.noConfusion h)|refine And.intro (fun h=>Bool.noConfusion h) (fun _=>?_)|refine And.intro (fun _=>?_) (fun h=>absurd h (by rw [e1]; decide))|refine And.intro (fun h=>absurd h (by rw [e1]; decide)) (fun _=>?_))
  refine ⟨.a (.c (.int .i64 (n.toNat:Nat))),_,⟨[0,1],⟨rfl,rfl,rfl⟩,?_⟩,n.toNat,s',l',e',?_,hr',rfl,rfl⟩
  ·(repeat first|exact trivial|refine ent1 ?_)
   refine eqC_bts ?_
   (repeat first|exact trivial|refine ent1 ?_)
  ·unfold countM
   rw [hx]
   show (if true=false then _ else if most<n.toNat then _ else _)=_
   rw [if_neg (by decide),if_neg h1]
set_option maxRecDepth 20000 in
theorem fn_rlong (A:Sl) (s:RS) (most:Nat) {l:Bs} {e:Int} (hr:RdI A s l e) (hm:most≤1000000):FnR Try.prog tds 44 1 [svB A,rdC s] [.c (.p 1 0 0),.c (.int .i64 (most:Nat))] (fun _=>True)
  (fun y hs=>∃ t s' l' e',longM l e most=(t.l,l',e')∧RdI A s' l' e'∧t.Ok∧y=.a (.c (svC 2 t))∧hs=[svB A,rdC s',svB t]):=by
 refine fn_of_body tds_ok follows_ Try.func44 rfl (t:=.a (.c (.p 1 0 0))::.a (.c (.int .i64 (most:Nat)))::anys (Try.f44.ntmps-2)) rfl (fun w r0 hr0 _=>?_)
 obtain ⟨x0,x1,rfl⟩:=len2' hr0
 (repeat first|refine And.intro (by omega) ?_|refine And.intro (by decide) ?_|(with_reducible refine frc_parts (by first|omega|decide) ?_)|(with_reducible refine frc_bytesL (by first|omega|decide) ?_)|refine And.intro rfl ?_)
 refine call_same (fn_rcount A s most hr hm) [0,1] rfl (by (repeat first|exact trivial|refine ent1 ?_)) ?_ (fun _ _=>trivial) ?_
 ·refine eqC_bts ?_
  (repeat first|exact trivial|refine ent1 ?_)
 rintro x hs ⟨n,s',l',e',hx,hr',rfl,rfl⟩
 (repeat first|refine And.intro (by omega) ?_|refine And.intro (by decide) ?_|(with_reducible refine frc_parts (by first|omega|decide) ?_)|(with_reducible refine frc_bytesL (by first|omega|decide) ?_)|refine And.intro rfl ?_)
 refine call_same (fn_rbytes A s' (n:Nat) hr') [0,1] rfl (by (repeat first|exact trivial|refine ent1 ?_)) ?_ (fun _ _=>trivial) ?_
 ·refine eqC_bts ?_
  (repeat first|exact trivial|refine ent1 ?_)
 rintro x hs ⟨t,s2,l2,e2,hy,hr2,ht,rfl,rfl⟩
 refine ⟨.a (.c (svC 2 t)),_,⟨[0,1,2],⟨rfl,rfl,rfl⟩,?_⟩,t,s2,l2,e2,by unfold longM; rw [hx]; exact hy,hr2,ht,rfl,rfl⟩
 (repeat first|exact trivial|refine ent1 ?_)
 refine eqC_bts ?_
 (repeat first|exact trivial|refine ent1 ?_)
 refine eqC_btsM ?_
 (repeat first|exact trivial|refine ent1 ?_)
set_option maxRecDepth 20000 in
theorem fn_rend (A:Sl) (s:RS) {l:Bs} {e:Int} (hr:RdI A s l e):FnR Try.prog tds 47 1 [svB A,rdC s] [.c (.p 1 0 0)] (fun _=>True)
  (fun y hs=>∃ s' l' e',endM l e=(l',e')∧RdI A s' l' e'∧y=.a (.c (.int .i64 e'))∧hs=[svB A,rdC s']):=by
 refine fn_of_body tds_ok follows_ Try.func47 rfl (t:=.a (.c (.p 1 0 0))::anys (Try.f47.ntmps-1)) rfl (fun w r0 hr0 _=>?_)
 obtain ⟨x0,x1,rfl⟩:=len2' hr0
 (repeat first|refine And.intro (by omega) ?_|refine And.intro (by decide) ?_|(with_reducible refine frc_parts (by first|omega|decide) ?_)|(with_reducible refine frc_bytesL (by first|omega|decide) ?_)|refine And.intro rfl ?_)
 refine call_same (fn_rleft A s hr) [0,1] rfl (by (repeat first|exact trivial|refine ent1 ?_)) ?_ (fun _ _=>trivial) ?_
 ·refine eqC_bts ?_
  (repeat first|exact trivial|refine ent1 ?_)
 rintro x hs ⟨rfl,rfl⟩
 by_cases h1:0<l.length
 ·have e1:decide ((0:Int)<(l.length:Int))=true:=decide_eq_true (by omega)
  (repeat first|refine And.intro (by omega) ?_|refine And.intro (by decide) ?_|refine And.intro rfl ?_|refine And.intro (fun _=>?_) (fun h=>Bool.noConfusion h)|refine And.intro (fun h=>Bool.noConfusion h) (fun _=>?_)|refine And.intro (fun _=>?_) (fun h=>absurd h (by rw [e1]; decide))|refine And.intro (fun h=>absurd h (by rw [e1]; decide)) (fun _=>?_))
  refine call_same (fn_rfail A s 24 hr) [0,1] rfl (by (repeat first|exact trivial|refine ent1 ?_)) ?_ (fun _ _=>trivial) ?_
  ·refine eqC_bts ?_
   (repeat first|exact trivial|refine ent1 ?_)
  rintro x hs ⟨s',l',e',hx,hr',rfl,rfl⟩
  (repeat first|refine And.intro (by omega) ?_|refine And.intro (by decide) ?_|(with_reducible refine frc_parts (by first|omega|decide) ?_)|(with_reducible refine frc_bytesL (by first|omega|decide) ?_)|refine And.intro rfl ?_)
  refine call_same (fn_rerr A s' hr') [0,1] rfl (by (repeat first|exact trivial|refine ent1 ?_)) ?_ (fun _ _=>trivial) ?_
  ·refine eqC_bts ?_
   (repeat first|exact trivial|refine ent1 ?_)
  rintro x hs ⟨rfl,rfl⟩
  refine ⟨.a (.c (.int .i64 e')),_,⟨[0,1],⟨rfl,rfl,rfl⟩,?_⟩,s',l',e',by unfold endM; rw [if_pos h1]; exact hx,hr',rfl,rfl⟩
  (repeat first|exact trivial|refine ent1 ?_)
  refine eqC_bts ?_
  (repeat first|exact trivial|refine ent1 ?_)
 ·have e1:decide ((0:Int)<(l.length:Int))=false:=decide_eq_false (by omega)
  (repeat first|refine And.intro (by omega) ?_|refine And.intro (by decide) ?_|refine And.intro rfl ?_|refine And.intro (fun _=>?_) (fun h=>Bool.noConfusion h)|refine And.intro (fun h=>Bool.noConfusion h) (fun _=>?_)|refine And.intro (fun _=>?_) (fun h=>absurd h (by rw [e1]; decide))|refine And.intro (fun h=>absurd h (by rw [e1]; decide)) (fun _=>?_))
  refine call_same (fn_rerr A s hr) [0,1] rfl (by (repeat first|exact trivial|refine ent1 ?_)) ?_ (fun _ _=>trivial) ?_
  ·refine eqC_bts ?_
   (repeat first|exact trivial|refine ent1 ?_)
  rintro x hs ⟨rfl,rfl⟩
  refine ⟨.a (.c (.int .i64 e)),_,⟨[0,1],⟨rfl,rfl,rfl⟩,?_⟩,s,l,e,by unfold endM; rw [if_neg h1],hr,rfl,rfl⟩
  (repeat first|exact trivial|refine ent1 ?_)
  refine eqC_bts ?_
  (repeat first|exact trivial|refine ent1 ?_)
end Sx
end
section
namespace Vi
open Sha Sx
def numId (i:BitVec 64):Bool:=decide (i=1#64) || decide (i=4#64) || decide (i=5#64) || decide (i=6#64) || decide (i=7#64) || decide (i=8#64) || decide (i=9#64) || decide (i=11#64) || decide (i=14#64)
abbrev Said:=List (BitVec 64 × BitVec 64)
def ownM (id:BitVec 64) (v:Bs) (D:Said):Int × Said:=match numId id with
 | true=>match nextM v 0 with
  | ((n,_,_),r,f)=>((endM r f).2,putK id n (putK id 0#64 D))
 | false=>(0,putK id 0#64 D)
def oneP (m:Nat) (l:Bs) (D:Said) (src:Bs):Int × Bs × Said × Bs:=match nextM l 0 with
 | ((id,_,_),l1,e1)=>match longM l1 e1 m with
  | (v,l2,e2)=>if e2≠0 then (e2,[],D,src) else if hasK id D=true then (18,[],D,src) else match ownM id v D with
   | (g,D2)=>if g≠0 then (g,[],D,src) else (0,l2,D2,if id=15#64 then v else src)
def allP (m:Nat):Nat→Bs→Said→Bs→Int × Said × Bs
 | 0,_,D,src=>(0,D,src)
 | f+1,l,D,src=>if l.length=0 then (0,D,src) else match oneP m l D src with
  | (e,l',D',src')=>if e≠0 then (e,D,src) else allP m f l' D' src'
theorem allP_end {m f:Nat} {D:Said} {src:Bs}:allP m f [] D src=(0,D,src):=by
 cases f <;> simp [allP]
theorem allP_step {m f:Nat} {l l':Bs} {D D':Said} {src src':Bs} (hl:l.length≠0) (h:oneP m l D src=(0,l',D',src')):allP m (f+1) l D src=allP m f l' D' src':=by
 rw [allP,if_neg hl,h]
 simp
theorem allP_bad {m f:Nat} {l l':Bs} {D D':Said} {src src':Bs} {e:Int} (hl:l.length≠0) (h:oneP m l D src=(e,l',D',src')) (he:e≠0):allP m (f+1) l D src=(e,D,src):=by
 rw [allP,if_neg hl,h]
 simp [he]
def idsP (D:Said):Said:=if hasK 14#64 D=true then D else putK 14#64 2#64 D
end Vi
namespace Sx
open Sha Vi

set_option maxRecDepth 20000 in
theorem fn_isnum (i:BitVec 64):Fn Try.prog tds 62 [] [.c (.w64 i)] (fun _=>True) (fun x hs=>x=.a (.c (.bool (numId i)))∧hs=[]):=by
 refine fn_of_body tds_ok follows_ Try.func62 rfl (t:=.a (.c (.w64 i))::anys (Try.f62.ntmps-1)) rfl (fun w r0 hr _=>?_)
 obtain rfl:=List.eq_nil_of_length_eq_zero hr
 by_cases h1:i=1#64
 ·have e1:decide (i=1#64)=true:=decide_eq_true h1
  (repeat show _∧_;first|refine yr ?_|refine yt ?_|refine yf ?_|refine ya e1 ?_|refine yb e1 ?_|refine yo ?_)
  refine ⟨.a (.c (.bool true)),_,⟨[],⟨rfl,rfl,rfl⟩,?_⟩,by rw [h1]; rfl,rfl⟩
  (repeat first|exact trivial|refine ent1 ?_)
 have e1:decide (i=1#64)=false:=decide_eq_false h1
 by_cases h4:i=4#64
 ·have e4:decide (i=4#64)=true:=decide_eq_true h4
  (repeat show _∧_;first|refine yr ?_|refine yt ?_|refine yf ?_|refine ya e1 ?_|refine yb e1 ?_|refine ya e4 ?_|refine yb e4 ?_|refine yo ?_)
  refine ⟨.a (.c (.bool true)),_,⟨[],⟨rfl,rfl,rfl⟩,?_⟩,by rw [h4]; rfl,rfl⟩
  (repeat first|exact trivial|refine ent1 ?_)
 have e4:decide (i=4#64)=false:=decide_eq_false h4
 by_cases h5:i=5#64
 ·have e5:decide (i=5#64)=true:=decide_eq_true h5
  (repeat show _∧_;first|refine yr ?_|refine yt ?_|refine yf ?_|refine ya e1 ?_|refine yb e1 ?_|refine ya e4 ?_|refine yb e4 ?_|refine ya e5 ?_|refine yb e5 ?_|refine yo ?_)
  refine ⟨.a (.c (.bool true)),_,⟨[],⟨rfl,rfl,rfl⟩,?_⟩,by rw [h5]; rfl,rfl⟩
  (repeat first|exact trivial|refine ent1 ?_)
 have e5:decide (i=5#64)=false:=decide_eq_false h5
 by_cases h6:i=6#64
 ·have e6:decide (i=6#64)=true:=decide_eq_true h6
  (repeat show _∧_;first|refine yr ?_|refine yt ?_|refine yf ?_|refine ya e1 ?_|refine yb e1 ?_|refine ya e4 ?_|refine yb e4 ?_|refine ya e5 ?_|refine yb e5 ?_|refine ya e6 ?_|refine yb e6 ?_|refine yo ?_)
  refine ⟨.a (.c (.bool true)),_,⟨[],⟨rfl,rfl,rfl⟩,?_⟩,by rw [h6]; rfl,rfl⟩
  (repeat first|exact trivial|refine ent1 ?_)
 have e6:decide (i=6#64)=false:=decide_eq_false h6
 by_cases h7:i=7#64
 ·have e7:decide (i=7#64)=true:=decide_eq_true h7
  (repeat show _∧_;first|refine yr ?_|refine yt ?_|refine yf ?_|refine ya e1 ?_|refine yb e1 ?_|refine ya e4 ?_|refine yb e4 ?_|refine ya e5 ?_|refine yb e5 ?_|refine ya e6 ?_|refine yb e6 ?_|refine ya e7 ?_|refine yb e7 ?_|refine yo ?_)
  refine ⟨.a (.c (.bool true)),_,⟨[],⟨rfl,rfl,rfl⟩,?_⟩,by rw [h7]; rfl,rfl⟩
  (repeat first|exact trivial|refine ent1 ?_)
 have e7:decide (i=7#64)=false:=decide_eq_false h7
 by_cases h8:i=8#64
 ·have e8:decide (i=8#64)=true:=decide_eq_true h8
  (repeat show _∧_;first|refine yr ?_|refine yt ?_|refine yf ?_|refine ya e1 ?_|refine yb e1 ?_|refine ya e4 ?_|refine yb e4 ?_|refine ya e5 ?_|refine yb e5 ?_|refine ya e6 ?_|refine yb e6 ?_|refine ya e7 ?_|refine yb e7 ?_|refine ya e8 ?_|refine yb e8 ?_|refine yo ?_)
  refine ⟨.a (.c (.bool true)),_,⟨[],⟨rfl,rfl,rfl⟩,?_⟩,by rw [h8]; rfl,rfl⟩
  (repeat first|exact trivial|refine ent1 ?_)
 have e8:decide (i=8#64)=false:=decide_eq_false h8
 by_cases h9:i=9#64
 ·have e9:decide (i=9#64)=true:=decide_eq_true h9
  (repeat show _∧_;first|refine yr ?_|refine yt ?_|refine yf ?_|refine ya e1 ?_|refine yb e1 ?_|refine ya e4 ?_|refine yb e4 ?_|refine ya e5 ?_|refine yb e5 ?_|refine ya e6 ?_|refine yb e6 ?_|refine ya e7 ?_|refine yb e7 ?_|refine ya e8 ?_|refine yb e8 ?_|refine ya e9 ?_|refine yb e9 ?_|refine yo ?_)
  refine ⟨.a (.c (.bool true)),_,⟨[],⟨rfl,rfl,rfl⟩,?_⟩,by rw [h9]; rfl,rfl⟩
  (repeat first|exact trivial|refine ent1 ?_)
 have e9:decide (i=9#64)=false:=decide_eq_false h9
 by_cases h11:i=11#64
 ·have e11:decide (i=11#64)=true:=decide_eq_true h11
  (repeat show _∧_;first|refine yr ?_|refine yt ?_|refine yf ?_|refine ya e1 ?_|refine yb e1 ?_|refine ya e4 ?_|refine yb e4 ?_|refine ya e5 ?_|refine yb e5 ?_|refine ya e6 ?_|refine yb e6 ?_|refine ya e7 ?_|refine yb e7 ?_|refine ya e8 ?_|refine yb e8 ?_|refine ya e9 ?_|refine yb e9 ?_|refine ya e11 ?_|refine yb e11 ?_|refine yo ?_)
  refine ⟨.a (.c (.bool true)),_,⟨[],⟨rfl,rfl,rfl⟩,?_⟩,by rw [h11]; rfl,rfl⟩
  (repeat first|exact trivial|refine ent1 ?_)
 have e11:decide (i=11#64)=false:=decide_eq_false h11
 by_cases h14:i=14#64
 ·have e14:decide (i=14#64)=true:=decide_eq_true h14
  (repeat show _∧_;first|refine yr ?_|refine yt ?_|refine yf ?_|refine ya e1 ?_|refine yb e1 ?_|refine ya e4 ?_|refine yb e4 ?_|refine ya e5 ?_|refine yb e5 ?_|refine ya e6 ?_|refine yb e6 ?_|refine ya e7 ?_|refine yb e7 ?_|refine ya e8 ?_|refine yb e8 ?_|refine ya e9 ?_|refine yb e9 ?_|refine ya e11 ?_|refine yb e11 ?_|refine ya e14 ?_|refine yb e14 ?_|refine yo ?_)
  refine ⟨.a (.c (.bool true)),_,⟨[],⟨rfl,rfl,rfl⟩,?_⟩,by rw [h14]; rfl,rfl⟩
  (repeat first|exact trivial|refine ent1 ?_)
 have e14:decide (i=14#64)=false:=decide_eq_false h14
 (repeat show _∧_;first|refine yr ?_|refine yt ?_|refine yf ?_|refine ya e1 ?_|refine yb e1 ?_|refine ya e4 ?_|refine yb e4 ?_|refine ya e5 ?_|refine yb e5 ?_|refine ya e6 ?_|refine yb e6 ?_|refine ya e7 ?_|refine yb e7 ?_|refine ya e8 ?_|refine yb e8 ?_|refine ya e9 ?_|refine yb e9 ?_|refine ya e11 ?_|refine yb e11 ?_|refine ya e14 ?_|refine yb e14 ?_|refine yo ?_)
 refine ⟨.a (.c (.bool false)),_,⟨[],⟨rfl,rfl,rfl⟩,?_⟩,by unfold numId; rw [e1,e4,e5,e6,e7,e8,e9,e11,e14]; rfl,rfl⟩
 (repeat first|exact trivial|refine ent1 ?_)
end Sx
end
section
namespace Vi
open Sha Sx
def isP (D:Said) (src:Bs) (p:Pm):Prop:=p.a0=lookK 1#64 0#64 D∧p.a1=lookK 4#64 0#64 D∧p.a2=lookK 5#64 0#64 D∧p.a3=lookK 6#64 0#64 D∧p.a4=lookK 7#64 0#64 D ∧
 p.a5=lookK 8#64 0#64 D∧p.a6=lookK 9#64 0#64 D∧p.a7=lookK 11#64 0#64 D∧p.a8=lookK 14#64 0#64 D∧p.s.l=src
abbrev pm0:Pm:=⟨0#64,0#64,0#64,0#64,0#64,0#64,0#64,0#64,0#64,⟨true,0,0,0,[]⟩⟩
def takeP (l:Bs) (e:Int) (p:Pm):Prop:=match allP l.length l.length l [] [] with
 | (f,D,src)=>(f≠0→e=f∧p=pm0)∧(f=0→(hasK 15#64 D=false→e=17∧p=pm0) ∧
  (hasK 15#64 D=true→∃ q,q.s.Ok∧isP (idsP D) src q∧(checkP q≠0→e=checkP q∧p=pm0)∧(checkP q=0→e=0∧p=q)))
theorem takeP_bad {l src:Bs} {D:Said} {e:Int} (h:allP l.length l.length l [] []=(e,D,src)) (he:e≠0):takeP l e pm0:=by
 unfold takeP
 rw [h]
 exact ⟨fun _=>⟨rfl,rfl⟩,fun h=>absurd h he⟩
theorem nextM_len {l l':Bs} {e e':Int} {x:BitVec 64 × Nat × Bool} (h:nextM l e=(x,l',e')):l'.length≤l.length∧(e'=0→l'.length<l.length):=by
 unfold nextM at h
 split at h
 ·simp only [Prod.mk.injEq] at h
  obtain ⟨_,rfl,rfl⟩:=h
  exact ⟨Nat.le_refl _,fun h=>absurd h (by assumption)⟩
 ·split at h
  ·simp only [Prod.mk.injEq] at h
   obtain ⟨_,rfl,rfl⟩:=h
   exact ⟨Nat.zero_le _,fun h=>absurd h (by assumption)⟩
  ·simp only [Prod.mk.injEq] at h
   obtain ⟨_,rfl,rfl⟩:=h
   have:=takeM_le (l:=l) (n:=(takeM l).1) (k:=(takeM l).2.1) (e:=(takeM l).2.2) rfl
   have h2:=this.2 (by omega)
   simp only [List.length_drop]
   exact ⟨by omega,fun _=>by omega⟩
theorem longM_len {l l' v:Bs} {e e':Int} {m:Nat} (h:longM l e m=(v,l',e')):l'.length≤l.length∧(e≠0→e'≠0):=by
 unfold longM countM at h
 rcases hn:nextM l e with ⟨⟨n,k,b⟩,l1,e1⟩
 have h1:=nextM_len hn
 have h2:e≠0→e1≠0:=fun he=>by
  unfold nextM at hn
  rw [if_pos he] at hn
  simp only [Prod.mk.injEq] at hn
  obtain ⟨_,_,rfl⟩:=hn
  exact he
 have hb:∀ (l1:Bs) (e1:Int) (c:Int),bytesM l1 e1 c=(v,l',e')→l'.length≤l1.length∧(e1≠0→e'≠0):=by
  intro l1 e1 c hb
  unfold bytesM at hb
  split at hb
  ·simp only [Prod.mk.injEq] at hb
   obtain ⟨_,rfl,rfl⟩:=hb
   exact ⟨Nat.le_refl _,fun h=>h⟩
  ·split at hb
   ·simp only [Prod.mk.injEq] at hb
    obtain ⟨_,rfl,rfl⟩:=hb
    exact ⟨Nat.zero_le _,fun h=>by decide⟩
   ·simp only [Prod.mk.injEq] at hb
    obtain ⟨_,rfl,rfl⟩:=hb
    exact ⟨by simp,fun h=>absurd h (by assumption)⟩
 rw [hn] at h
 simp only at h
 split at h
 ·have:=hb _ _ _ h
  dsimp only at this h1
  exact ⟨by omega,fun he=>this.2 (h2 he)⟩
 ·split at h
  ·have:=hb _ _ _ h
   simp only [List.length_nil] at this
   exact ⟨by omega,fun _=>this.2 (by decide)⟩
  ·have:=hb _ _ _ h
   dsimp only at this h1
   exact ⟨by omega,fun he=>this.2 (h2 he)⟩
theorem one_shorter {l l1 l2 v:Bs} {x:BitVec 64 × Nat × Bool} {e1 e2:Int} {m:Nat} (h1:nextM l 0=(x,l1,e1)) (h2:longM l1 e1 m=(v,l2,e2)) (h:e2=0):l2.length<l.length:=by
 have a:=nextM_len h1
 have b:=longM_len h2
 have:e1=0:=Classical.byContradiction fun hc=>b.2 hc h
 have:=a.2 this
 omega
theorem takeP_none {l src:Bs} {D:Said} (h:allP l.length l.length l [] []=(0,D,src)) (hk:hasK 15#64 D=false):takeP l 17 pm0:=by
 unfold takeP
 rw [h]
 exact ⟨fun h=>absurd rfl h,fun _=>⟨fun _=>⟨rfl,rfl⟩,fun h=>by rw [hk] at h; exact Bool.noConfusion h⟩⟩
theorem takeP_ok {l src:Bs} {D:Said} {e:Int} {p q:Pm} (h:allP l.length l.length l [] []=(0,D,src)) (hk:hasK 15#64 D=true) (hq:q.s.Ok) (hi:isP (idsP D) src q) (hc:(checkP q≠0∧e=checkP q∧p=pm0)∨(checkP q=0∧e=0∧p=q)):takeP l e p:=by
 unfold takeP
 rw [h]
 refine ⟨fun h=>absurd rfl h,fun _=>⟨fun h=>by rw [hk] at h; exact Bool.noConfusion h,fun _=>⟨q,hq,hi,fun h=>?_,fun h=>?_⟩⟩⟩
 ·rcases hc with ⟨_,h2⟩|⟨h1,_⟩
  ·exact h2
  ·exact absurd h1 h
 ·rcases hc with ⟨h1,_⟩|⟨_,h2⟩
  ·exact absurd h h1
  ·exact h2
section
variable {m k : Nat} {l l1 l2 v src : Bs} {D D2 : Said} {id : BitVec 64} {b : Bool} {e1 e2 g : Int}
theorem oneP_err (h1:nextM l 0=((id,k,b),l1,e1)) (h2:longM l1 e1 m=(v,l2,e2)) (h:e2≠0):oneP m l D src=(e2,[],D,src):=by
 unfold oneP
 rw [h1]
 simp only [h2]
 rw [if_pos h]
theorem oneP_two (h1:nextM l 0=((id,k,b),l1,e1)) (h2:longM l1 e1 m=(v,l2,e2)) (h:e2=0) (hk:hasK id D=true):oneP m l D src=(18,[],D,src):=by
 unfold oneP
 rw [h1]
 simp only [h2]
 rw [if_neg (by omega),if_pos hk]
theorem oneP_own (h1:nextM l 0=((id,k,b),l1,e1)) (h2:longM l1 e1 m=(v,l2,e2)) (h:e2=0) (hk:hasK id D=false) (ho:ownM id v D=(g,D2)) (hg:g≠0):oneP m l D src=(g,[],D,src):=by
 unfold oneP
 rw [h1]
 simp only [h2]
 rw [if_neg (by omega),if_neg (by rw [hk]; exact Bool.noConfusion),ho]
 simp [hg]
theorem oneP_ok (h1:nextM l 0=((id,k,b),l1,e1)) (h2:longM l1 e1 m=(v,l2,e2)) (h:e2=0) (hk:hasK id D=false) (ho:ownM id v D=(0,D2)):oneP m l D src=(0,l2,D2,if id=15#64 then v else src):=by
 unfold oneP
 rw [h1]
 simp only [h2]
 rw [if_neg (by omega),if_neg (by rw [hk]; exact Bool.noConfusion),ho]
 simp
end
end Vi
namespace Sx
open Sha Vi

set_option maxRecDepth 20000 in
set_option maxHeartbeats 4000000 in
theorem fn_ptake (s:Sl) (hs:s.Ok):FnR Try.prog tds 46 1 [svB s] [.c (svC 0 s)] (fun _=>True)
  (fun y hs=>∃ p e,takeP s.l e p∧p.s.Ok∧y=.tup [.agg (pmC 1 p),.c (.int .i64 e)]∧hs=[svB s,svB p.s]):=by
 refine fn_of_body tds_ok follows_ Try.func46 rfl (t:=.a (.c (svC 0 s))::anys (Try.f46.ntmps-1)) rfl (fun w r0 hr _=>?_)
 obtain ⟨x0,rfl⟩:=List.length_eq_one_iff.1 hr
 (repeat show _∧_;first|refine yr ?_|refine yt ?_|refine yf ?_|refine yo ?_)
 refine call_same (fn_vread s hs) [0] rfl (by (repeat first|exact trivial|refine ent1 ?_)) ?_ (fun _ _=>trivial) ?_
 ·refine eqC_bts ?_
  (repeat first|exact trivial|refine ent1 ?_)
 rintro x hs' ⟨A,r,hAl,hr,rfl,rfl⟩
 (repeat show _∧_;first|refine yr ?_|refine yt ?_|refine yf ?_|refine yo ?_)
 refine .inl ⟨Bs × RS × Said × Sl,fun x=>⟨[.a (.c (svC 0 s)),.any,.a (.c (.p 1 0 0)),.a (.c (.int .i64 (0))),.a (.c (.mh 2)),.a (.c (svC 5 x.2.2.2)),.a (.c (.p 3 0 0)),.any,.any,.any,.any,.any,.any,.any,.any,.any,.any,.any,.any,.any,.any,.any,.any,.any,.any,.any,.any,.any,.any,.any,.any,.any,.any,.any,.any,.any,.any,.any,.any,.any,.any,.any,.any,.any,.any,.any,.any,.any,.any,.any,.any,.any,.any,.any,.any,.any,.any,.any,.any,.any,.any,.any,.any,.any,.any,.any,.any,.any,.any,.any,.any,.any,.any,.any,.any,.any,.any,.any,.any,.any,.any,.any,.any,.any,.any,.any,.any,.any,.any,.any,.any,.any,.any,.any,.any,.any,.any,.any,.any,.any,.any,.any,.any,.any,.any,.any,.any,.any],[svB s,pmC 1 pm0,[.obj (.w64 x.2.2.1)],rdCi 4 x.2.1,svB A,svB x.2.2.2]⟩,
  fun x=>RdI A x.2.1 x.1 0∧x.2.2.2.Ok∧∃ f,x.1.length≤f∧allP s.l.length f x.1 x.2.2.1 x.2.2.2.l=allP s.l.length s.l.length s.l [] [],fun x=>x.1.length,⟨(s.l,r,[],⟨true,0,0,0,[]⟩),[0,1,2,3,4,4],⟨⟨rfl,rfl,rfl⟩,?_⟩,⟨hr,nil_ok,_,Nat.le_refl _,rfl⟩⟩,fun x=>?_⟩
 ·(repeat first|exact trivial|refine ent1 ?_)
  refine eqC_bts ?_
  (repeat first|exact trivial|refine ent1 ?_)
  refine eqC_btsM ?_
  (repeat first|exact trivial|refine ent1 ?_)
  refine eqSegs_nil ?_
  (repeat first|exact trivial|refine ent1 ?_)
 obtain ⟨l,r,D,src⟩:=x
 rintro ⟨hr,hsrc,f,hf,hall⟩
 dsimp only at hr hsrc hf hall ⊢
 (repeat show _∧_;first|refine yr ?_|refine yt ?_|refine yf ?_|refine yo ?_)
 refine call_same (fn_rleft A r hr) [4,3] rfl (by (repeat first|exact trivial|refine ent1 ?_)) ?_ (fun _ _=>trivial) ?_
 ·refine eqC_bts ?_
  (repeat first|exact trivial|refine ent1 ?_)
 rintro x hs' ⟨rfl,rfl⟩
 by_cases h0:l.length=0
 ·have e0:decide ((0:Int)<(l.length:Int))=false:=decide_eq_false (by omega)
  (repeat show _∧_;first|refine yr ?_|refine yt ?_|refine yf ?_|refine ya e0 ?_|refine yb e0 ?_|refine yo ?_)
  have hl0:l=[]:=List.eq_nil_of_length_eq_zero h0
  have hres:allP s.l.length s.l.length s.l [] []=(0,D,src.l):=by rw [← hall,hl0,allP_end]
  (repeat show _∧_;first|refine yr ?_|refine yt ?_|refine yf ?_|refine yo ?_)
  by_cases g1:hasK 15#64 D=true
  rotate_left
  ·have g1:hasK 15#64 D=false:=by simpa using g1
   have k1:(!hasK 15#64 D)=true:=by rw [g1]; rfl
   (repeat show _∧_;first|refine yr ?_|refine yt ?_|refine yf ?_|refine ya k1 ?_|refine yb k1 ?_|refine yo ?_)
   (repeat first|refine And.intro (by omega) ?_|refine And.intro (by decide) ?_|(with_reducible refine frc_parts (by first|omega|decide) ?_)|(with_reducible refine frc_bytesL (by first|omega|decide) ?_)|refine And.intro rfl ?_)
   refine ⟨.tup [.agg (pmC 1 pm0),.c (.int .i64 17)],_,⟨[0,1],⟨rfl,rfl,rfl⟩,?_⟩,pm0,17,takeP_none hres g1,nil_ok,rfl,rfl⟩
   (repeat first|exact trivial|refine ent1 ?_)
   refine eqC_bts ?_
   (repeat first|exact trivial|refine ent1 ?_)
  have k1:(!hasK 15#64 D)=false:=by rw [g1]; rfl
  (repeat show _∧_;first|refine yr ?_|refine yt ?_|refine yf ?_|refine ya k1 ?_|refine yb k1 ?_|refine yo ?_)
  (repeat show _∧_;first|refine yr ?_|refine yt ?_|refine yf ?_|refine yo ?_)
  by_cases g2:hasK 14#64 D=true
  ·have k2:(!hasK 14#64 D)=false:=by rw [g2]; rfl
   have hD:idsP D=D:=by unfold idsP; rw [if_pos g2]
   (repeat show _∧_;first|refine yr ?_|refine yt ?_|refine yf ?_|refine ya k2 ?_|refine yb k2 ?_|refine yo ?_)
   (repeat show _∧_;first|refine yr ?_|refine yt ?_|refine yf ?_|refine yo ?_)
   obtain ⟨q,hq⟩:∃ q:Pm,q=⟨lookK 1#64 0#64 (D),lookK 4#64 0#64 (D),lookK 5#64 0#64 (D),lookK 6#64 0#64 (D),lookK 7#64 0#64 (D),lookK 8#64 0#64 (D),lookK 9#64 0#64 (D),lookK 11#64 0#64 (D),lookK 14#64 0#64 (D),src⟩:=⟨_,rfl⟩
   have hisP:isP (idsP D) src.l q:=by rw [hD,hq]; exact ⟨rfl,rfl,rfl,rfl,rfl,rfl,rfl,rfl,rfl,rfl⟩
   have hqs:q.s=src:=by rw [hq]
   refine call_same (fn_pmcheck q) [5] rfl (by subst hq; (repeat first|exact trivial|refine ent1 ?_)) (by subst hq; refine eqC_bts ?_; (repeat first|exact trivial|refine ent1 ?_)) (fun _ _=>trivial) ?_
   rintro x hs' ⟨rfl,rfl⟩
   by_cases g3:checkP q=0
   ·have k3:decide (checkP q≠0)=false:=decide_eq_false (by omega)
    (repeat show _∧_;first|refine yr ?_|refine yt ?_|refine yf ?_|refine ya k3 ?_|refine yb k3 ?_|refine yo ?_)
    (repeat first|refine And.intro (by omega) ?_|refine And.intro (by decide) ?_|(with_reducible refine frc_parts (by first|omega|decide) ?_)|(with_reducible refine frc_bytesL (by first|omega|decide) ?_)|refine And.intro rfl ?_)
    refine ⟨.tup [.agg (pmC 1 q),.c (.int .i64 0)],_,⟨[0,5],⟨rfl,rfl,rfl⟩,?_⟩,q,0,takeP_ok hres g1 (by rw [hqs]; exact hsrc) hisP (.inr ⟨g3,rfl,rfl⟩),by rw [hqs]; exact hsrc,rfl,rfl⟩
    subst hq
    (repeat first|exact trivial|refine ent1 ?_)
    refine eqC_bts ?_
    (repeat first|exact trivial|refine ent1 ?_)
    refine eqC_bts ?_
    (repeat first|exact trivial|refine ent1 ?_)
   ·have k3:decide (checkP q≠0)=true:=decide_eq_true g3
    (repeat show _∧_;first|refine yr ?_|refine yt ?_|refine yf ?_|refine ya k3 ?_|refine yb k3 ?_|refine yo ?_)
    (repeat first|refine And.intro (by omega) ?_|refine And.intro (by decide) ?_|(with_reducible refine frc_parts (by first|omega|decide) ?_)|(with_reducible refine frc_bytesL (by first|omega|decide) ?_)|refine And.intro rfl ?_)
    refine ⟨.tup [.agg (pmC 1 pm0),.c (.int .i64 (checkP q))],_,⟨[0,1],⟨rfl,rfl,rfl⟩,?_⟩,pm0,checkP q,takeP_ok hres g1 (by rw [hqs]; exact hsrc) hisP (.inl ⟨g3,rfl,rfl⟩),nil_ok,rfl,rfl⟩
    (repeat first|exact trivial|refine ent1 ?_)
    refine eqC_bts ?_
    (repeat first|exact trivial|refine ent1 ?_)
  have k2:(!hasK 14#64 D)=true:=by rw [show hasK 14#64 D=false by simpa using g2]; rfl
  have hD:idsP D=putK 14#64 2#64 D:=by unfold idsP; rw [if_neg g2]
  (repeat show _∧_;first|refine yr ?_|refine yt ?_|refine yf ?_|refine ya k2 ?_|refine yb k2 ?_|refine yo ?_)
  (repeat show _∧_;first|refine yr ?_|refine yt ?_|refine yf ?_|refine yo ?_)
  obtain ⟨q,hq⟩:∃ q:Pm,q=⟨lookK 1#64 0#64 (putK 14#64 2#64 D),lookK 4#64 0#64 (putK 14#64 2#64 D),lookK 5#64 0#64 (putK 14#64 2#64 D),lookK 6#64 0#64 (putK 14#64 2#64 D),lookK 7#64 0#64 (putK 14#64 2#64 D),lookK 8#64 0#64 (putK 14#64 2#64 D),lookK 9#64 0#64 (putK 14#64 2#64 D),lookK 11#64 0#64 (putK 14#64 2#64 D),lookK 14#64 0#64 (putK 14#64 2#64 D),src⟩:=⟨_,rfl⟩
  have hisP:isP (idsP D) src.l q:=by rw [hD,hq]; exact ⟨rfl,rfl,rfl,rfl,rfl,rfl,rfl,rfl,rfl,rfl⟩
  have hqs:q.s=src:=by rw [hq]
  refine call_same (fn_pmcheck q) [5] rfl (by subst hq; (repeat first|exact trivial|refine ent1 ?_)) (by subst hq; refine eqC_bts ?_; (repeat first|exact trivial|refine ent1 ?_)) (fun _ _=>trivial) ?_
  rintro x hs' ⟨rfl,rfl⟩
  by_cases g3:checkP q=0
  ·have k3:decide (checkP q≠0)=false:=decide_eq_false (by omega)
   (repeat show _∧_;first|refine yr ?_|refine yt ?_|refine yf ?_|refine ya k3 ?_|refine yb k3 ?_|refine yo ?_)
   (repeat first|refine And.intro (by omega) ?_|refine And.intro (by decide) ?_|(with_reducible refine frc_parts (by first|omega|decide) ?_)|(with_reducible refine frc_bytesL (by first|omega|decide) ?_)|refine And.intro rfl ?_)
   refine ⟨.tup [.agg (pmC 1 q),.c (.int .i64 0)],_,⟨[0,5],⟨rfl,rfl,rfl⟩,?_⟩,q,0,takeP_ok hres g1 (by rw [hqs]; exact hsrc) hisP (.inr ⟨g3,rfl,rfl⟩),by rw [hqs]; exact hsrc,rfl,rfl⟩
   subst hq
   (repeat first|exact trivial|refine ent1 ?_)
   refine eqC_bts ?_
   (repeat first|exact trivial|refine ent1 ?_)
   refine eqC_bts ?_
   (repeat first|exact trivial|refine ent1 ?_)
  ·have k3:decide (checkP q≠0)=true:=decide_eq_true g3
   (repeat show _∧_;first|refine yr ?_|refine yt ?_|refine yf ?_|refine ya k3 ?_|refine yb k3 ?_|refine yo ?_)
   (repeat first|refine And.intro (by omega) ?_|refine And.intro (by decide) ?_|(with_reducible refine frc_parts (by first|omega|decide) ?_)|(with_reducible refine frc_bytesL (by first|omega|decide) ?_)|refine And.intro rfl ?_)
   refine ⟨.tup [.agg (pmC 1 pm0),.c (.int .i64 (checkP q))],_,⟨[0,1],⟨rfl,rfl,rfl⟩,?_⟩,pm0,checkP q,takeP_ok hres g1 (by rw [hqs]; exact hsrc) hisP (.inl ⟨g3,rfl,rfl⟩),nil_ok,rfl,rfl⟩
   (repeat first|exact trivial|refine ent1 ?_)
   refine eqC_bts ?_
   (repeat first|exact trivial|refine ent1 ?_)
 have e0:decide ((0:Int)<(l.length:Int))=true:=decide_eq_true (by omega)
 (repeat show _∧_;first|refine yr ?_|refine yt ?_|refine yf ?_|refine ya e0 ?_|refine yb e0 ?_|refine yo ?_)
 refine call_same (fn_rint A r hr) [4,3] rfl (by (repeat first|exact trivial|refine ent1 ?_)) ?_ (fun _ _=>trivial) ?_
 ·refine eqC_bts ?_
  (repeat first|exact trivial|refine ent1 ?_)
 rintro x hs' ⟨id,k,b,r1,l1,e1',hx1,hr1,rfl,rfl⟩
 (repeat show _∧_;first|refine yr ?_|refine yt ?_|refine yf ?_|refine yo ?_)
 refine call_same (fn_rlong A r1 s.l.length hr1 hs.small) [4,3] rfl (by (repeat first|exact trivial|refine ent1 ?_)) ?_ (fun _ _=>trivial) ?_
 ·refine eqC_bts ?_
  (repeat first|exact trivial|refine ent1 ?_)
 rintro x hs' ⟨v,r2,l2,e2',hx2,hr2,hv,rfl,rfl⟩
 (repeat show _∧_;first|refine yr ?_|refine yt ?_|refine yf ?_|refine yo ?_)
 refine call_same (fn_rerr A r2 hr2) [4,3] rfl (by (repeat first|exact trivial|refine ent1 ?_)) ?_ (fun _ _=>trivial) ?_
 ·refine eqC_bts ?_
  (repeat first|exact trivial|refine ent1 ?_)
 rintro x hs' ⟨rfl,rfl⟩
 by_cases h2:e2'=0
 rotate_left
 ·have e2:decide (e2'≠0)=true:=decide_eq_true h2
  (repeat show _∧_;first|refine yr ?_|refine yt ?_|refine yf ?_|refine ya e2 ?_|refine yb e2 ?_|refine yo ?_)
  (repeat first|refine And.intro (by omega) ?_|refine And.intro (by decide) ?_|(with_reducible refine frc_parts (by first|omega|decide) ?_)|(with_reducible refine frc_bytesL (by first|omega|decide) ?_)|refine And.intro rfl ?_)
  refine ⟨.tup [.agg (pmC 1 pm0),.c (.int .i64 e2')],_,⟨[0,1],⟨rfl,rfl,rfl⟩,?_⟩,pm0,e2',?_,nil_ok,rfl,rfl⟩
  ·(repeat first|exact trivial|refine ent1 ?_)
   refine eqC_bts ?_
   (repeat first|exact trivial|refine ent1 ?_)
  ·obtain ⟨f,rfl⟩:∃ g,f=g+1:=⟨f-1,by omega⟩
   exact takeP_bad (by rw [← hall]; exact allP_bad h0 (oneP_err hx1 hx2 h2) h2) h2
 have e2:decide (e2'≠0)=false:=decide_eq_false (by omega)
 (repeat show _∧_;first|refine yr ?_|refine yt ?_|refine yf ?_|refine ya e2 ?_|refine yb e2 ?_|refine yo ?_)
 (repeat show _∧_;first|refine yr ?_|refine yt ?_|refine yf ?_|refine yo ?_)
 by_cases h3:hasK id D=true
 ·(repeat show _∧_;first|refine yr ?_|refine yt ?_|refine yf ?_|refine ya h3 ?_|refine yb h3 ?_|refine yo ?_)
  (repeat first|refine And.intro (by omega) ?_|refine And.intro (by decide) ?_|(with_reducible refine frc_parts (by first|omega|decide) ?_)|(with_reducible refine frc_bytesL (by first|omega|decide) ?_)|refine And.intro rfl ?_)
  refine ⟨.tup [.agg (pmC 1 pm0),.c (.int .i64 18)],_,⟨[0,1],⟨rfl,rfl,rfl⟩,?_⟩,pm0,18,?_,nil_ok,rfl,rfl⟩
  ·(repeat first|exact trivial|refine ent1 ?_)
   refine eqC_bts ?_
   (repeat first|exact trivial|refine ent1 ?_)
  ·obtain ⟨f,rfl⟩:∃ g,f=g+1:=⟨f-1,by omega⟩
   exact takeP_bad (by rw [← hall]; exact allP_bad h0 (oneP_two hx1 hx2 h2 h3) (by decide)) (by decide)
 have h3:hasK id D=false:=by simpa using h3
 (repeat show _∧_;first|refine yr ?_|refine yt ?_|refine yf ?_|refine ya h3 ?_|refine yb h3 ?_|refine yo ?_)
 (repeat show _∧_;first|refine yr ?_|refine yt ?_|refine yf ?_|refine yo ?_)
 by_cases h4:id=15#64
 ·have e4:decide (id=15#64)=true:=decide_eq_true h4
  have e5:numId id=false:=by rw [h4]; rfl
  (repeat show _∧_;first|refine yr ?_|refine yt ?_|refine yf ?_|refine ya e4 ?_|refine yb e4 ?_|refine yo ?_)
  (repeat show _∧_;first|refine yr ?_|refine yt ?_|refine yf ?_|refine yo ?_)
  refine call_same (fn_isnum id) [] rfl (by (repeat first|exact trivial|refine ent1 ?_)) trivial (fun _ _=>trivial) ?_
  rintro x hs' ⟨rfl,rfl⟩
  (repeat show _∧_;first|refine yr ?_|refine yt ?_|refine yf ?_|refine ya e5 ?_|refine yb e5 ?_|refine yo ?_)
  (repeat show _∧_;first|refine yr ?_|refine yt ?_|refine yf ?_|refine yo ?_)
  have ho:ownM id v.l D=(0,putK id 0#64 D):=by unfold ownM; rw [e5]
  obtain ⟨f,rfl⟩:∃ g,f=g+1:=⟨f-1,by omega⟩
  have hlt:=one_shorter hx1 hx2 h2
  refine ⟨(l2,r2,putK id 0#64 D,v),[0,1,2,3,4,6],⟨⟨rfl,rfl,rfl⟩,?_⟩,⟨h2 ▸ hr2,hv,f,by dsimp only; omega,by dsimp only; rw [← hall,allP_step h0 (oneP_ok hx1 hx2 h2 h3 ho),if_pos h4]⟩,hlt⟩
  (repeat first|exact trivial|refine ent1 ?_)
  refine eqC_bts ?_
  (repeat first|exact trivial|refine ent1 ?_)
  refine eqC_bts ?_
  (repeat first|exact trivial|refine ent1 ?_)
  refine eqC_btsM ?_
  (repeat first|exact trivial|refine ent1 ?_)
 have e4:decide (id=15#64)=false:=decide_eq_false h4
 (repeat show _∧_;first|refine yr ?_|refine yt ?_|refine yf ?_|refine ya e4 ?_|refine yb e4 ?_|refine yo ?_)
 (repeat show _∧_;first|refine yr ?_|refine yt ?_|refine yf ?_|refine yo ?_)
 refine call_same (fn_isnum id) [] rfl (by (repeat first|exact trivial|refine ent1 ?_)) trivial (fun _ _=>trivial) ?_
 rintro x hs' ⟨rfl,rfl⟩
 by_cases h5:numId id=true
 rotate_left
 ·have e5:numId id=false:=by simpa using h5
  (repeat show _∧_;first|refine yr ?_|refine yt ?_|refine yf ?_|refine ya e5 ?_|refine yb e5 ?_|refine yo ?_)
  (repeat show _∧_;first|refine yr ?_|refine yt ?_|refine yf ?_|refine yo ?_)
  have ho:ownM id v.l D=(0,putK id 0#64 D):=by unfold ownM; rw [e5]
  obtain ⟨f,rfl⟩:∃ g,f=g+1:=⟨f-1,by omega⟩
  have hlt:=one_shorter hx1 hx2 h2
  refine ⟨(l2,r2,putK id 0#64 D,src),[0,1,2,3,4,5],⟨⟨rfl,rfl,rfl⟩,?_⟩,⟨h2 ▸ hr2,hsrc,f,by dsimp only; omega,by dsimp only; rw [← hall,allP_step h0 (oneP_ok hx1 hx2 h2 h3 ho),if_neg h4]⟩,hlt⟩
  (repeat first|exact trivial|refine ent1 ?_)
  refine eqC_bts ?_
  (repeat first|exact trivial|refine ent1 ?_)
  refine eqC_bts ?_
  (repeat first|exact trivial|refine ent1 ?_)
  refine eqC_bts ?_
  (repeat first|exact trivial|refine ent1 ?_)
 (repeat show _∧_;first|refine yr ?_|refine yt ?_|refine yf ?_|refine ya h5 ?_|refine yb h5 ?_|refine yo ?_)
 refine call_same (fn_vread v hv) [6] rfl (by (repeat first|exact trivial|refine ent1 ?_)) ?_ (fun _ _=>trivial) ?_
 ·refine eqC_btsM ?_
  (repeat first|exact trivial|refine ent1 ?_)
 rintro x hs' ⟨B,r3,hBl,hr3,rfl,rfl⟩
 (repeat show _∧_;first|refine yr ?_|refine yt ?_|refine yf ?_|refine yo ?_)
 refine call_same (fn_rint B r3 hr3) [8,7] rfl (by (repeat first|exact trivial|refine ent1 ?_)) ?_ (fun _ _=>trivial) ?_
 ·refine eqC_btsM ?_
  (repeat first|exact trivial|refine ent1 ?_)
 rintro x hs' ⟨n,k2,b2,r4,l4,e4',hx4,hr4,rfl,rfl⟩
 (repeat show _∧_;first|refine yr ?_|refine yt ?_|refine yf ?_|refine yo ?_)
 refine call_same (fn_rend B r4 hr4) [8,7] rfl (by (repeat first|exact trivial|refine ent1 ?_)) ?_ (fun _ _=>trivial) ?_
 ·refine eqC_btsM ?_
  (repeat first|exact trivial|refine ent1 ?_)
 rintro x hs' ⟨r5,l5,e5',hx5,hr5,rfl,rfl⟩
 have ho:ownM id v.l D=(e5',putK id n (putK id 0#64 D)):=by
  unfold ownM
  rw [h5]
  simp only [hx4,hx5]
 obtain ⟨f,rfl⟩:∃ g,f=g+1:=⟨f-1,by omega⟩
 by_cases h6:e5'=0
 rotate_left
 ·have e6:decide (e5'≠0)=true:=decide_eq_true h6
  (repeat show _∧_;first|refine yr ?_|refine yt ?_|refine yf ?_|refine ya e6 ?_|refine yb e6 ?_|refine yo ?_)
  (repeat first|refine And.intro (by omega) ?_|refine And.intro (by decide) ?_|(with_reducible refine frc_parts (by first|omega|decide) ?_)|(with_reducible refine frc_bytesL (by first|omega|decide) ?_)|refine And.intro rfl ?_)
  refine ⟨.tup [.agg (pmC 1 pm0),.c (.int .i64 e5')],_,⟨[0,1],⟨rfl,rfl,rfl⟩,?_⟩,pm0,e5',?_,nil_ok,rfl,rfl⟩
  ·(repeat first|exact trivial|refine ent1 ?_)
   refine eqC_bts ?_
   (repeat first|exact trivial|refine ent1 ?_)
  ·exact takeP_bad (by rw [← hall]; exact allP_bad h0 (oneP_own hx1 hx2 h2 h3 ho h6) h6) h6
 have e6:decide (e5'≠0)=false:=decide_eq_false (by omega)
 (repeat show _∧_;first|refine yr ?_|refine yt ?_|refine yf ?_|refine ya e6 ?_|refine yb e6 ?_|refine yo ?_)
 (repeat show _∧_;first|refine yr ?_|refine yt ?_|refine yf ?_|refine yo ?_)
 have hlt:=one_shorter hx1 hx2 h2
 refine ⟨(l2,r2,putK id n (putK id 0#64 D),src),[0,1,2,3,4,5],⟨⟨rfl,rfl,rfl⟩,?_⟩,⟨h2 ▸ hr2,hsrc,f,by dsimp only; omega,by dsimp only; rw [← hall,allP_step h0 (oneP_ok hx1 hx2 h2 h3 (by rw [ho,h6])),if_neg h4]⟩,hlt⟩
 (repeat first|exact trivial|refine ent1 ?_)
 refine eqC_bts ?_
 (repeat first|exact trivial|refine ent1 ?_)
 refine eqC_bts ?_
 (repeat first|exact trivial|refine ent1 ?_)
 refine eqC_bts ?_
 (repeat first|exact trivial|refine ent1 ?_)
end Sx
end
section
namespace Vi
open Sha
def partL (n:BitVec 64) (k j:Nat):Bs:=tab j fun i=>byteN n (k-1-i)
@[simp] theorem partL_len (n:BitVec 64) (k j:Nat):(partL n k j).length=j:=tab_len _ _
theorem L_part {n:BitVec 64} {k j i:Nat} (h:i<j):L (partL n k j) i=byteN n (k-1-i):=L_tab h
theorem L_wide {n:BitVec 64} {k i:Nat} (h:i<k):L (wideL n k) i=if i=0 then byteN n (k-1) ||| markB k else byteN n (k-1-i):=L_tab h
theorem partL_succ (n:BitVec 64) (k j:Nat):partL n k (j+1)=partL n k j++[byteN n (k-1-j)]:=by
 unfold partL tab
 rw [List.range_succ,List.map_append]
 rfl
theorem partL_one (n:BitVec 64) (k:Nat):partL n k 1=[byteN n (k-1)]:=rfl
theorem shl8:∀ i:Nat,i<8→(8#64*BitVec.ofInt 64 (i:Int)).toNat=8*i:=by decide +kernel
theorem byte_at (n:BitVec 64) (k j:Nat) (hj:j<k) (hk:k≤8):BitVec.setWidth 8 (n >>> (8#64*BitVec.ofInt 64 ((k:Int)-1-(j:Int))).toNat)=byteN n (k-1-j):=by
 rw [show (k:Int)-1-(j:Int)=((k-1-j:Nat):Int) by omega,shl8 _ (by omega)]
 rfl
end Vi
namespace Sx
open Sha Vi

abbrev lsC (b:Bs) (c:Nat):List Seg:=[.row c (bytesF b.length (L b))]
theorem fn_vmark (k:Nat) (hk:okSz k):Fn Try.prog tds 75 [] [.c (.int .i64 (k:Nat))] (fun _=>True) (fun x hs=>x=.tup [.c (.w8 (markB k)),.c (.bool true)]∧hs=[]):=by
 refine fn_of_body tds_ok follows_ Try.func75 rfl (t:=.a (.c (.int .i64 (k:Nat)))::anys (Try.f75.ntmps-1)) rfl (fun w r0 hr _=>?_)
 obtain rfl:r0=[]:=List.eq_nil_of_length_eq_zero hr
 rcases hk with rfl|rfl|rfl|rfl
 ·refine ⟨fun h=>?_,fun h=>absurd h (by decide)⟩
  exact ⟨.tup [.c (.w8 0#8),.c (.bool true)],[],⟨[],⟨rfl,rfl,rfl⟩,rfl,rfl,trivial⟩,rfl,rfl⟩
 ·refine ⟨fun h=>absurd h (by decide),fun _=>⟨fun h=>?_,fun h=>absurd h (by decide)⟩⟩
  exact ⟨.tup [.c (.w8 64#8),.c (.bool true)],[],⟨[],⟨rfl,rfl,rfl⟩,rfl,rfl,trivial⟩,rfl,rfl⟩
 ·refine ⟨fun h=>absurd h (by decide),fun _=>⟨fun h=>absurd h (by decide),fun _=>⟨fun h=>?_,fun h=>absurd h (by decide)⟩⟩⟩
  exact ⟨.tup [.c (.w8 128#8),.c (.bool true)],[],⟨[],⟨rfl,rfl,rfl⟩,rfl,rfl,trivial⟩,rfl,rfl⟩
 ·refine ⟨fun h=>absurd h (by decide),fun _=>⟨fun h=>absurd h (by decide),fun _=>⟨fun h=>absurd h (by decide),fun _=>⟨fun h=>?_,fun h=>absurd h (by decide)⟩⟩⟩⟩
  exact ⟨.tup [.c (.w8 192#8),.c (.bool true)],[],⟨[],⟨rfl,rfl,rfl⟩,rfl,rfl,trivial⟩,rfl,rfl⟩
theorem wide_row {b:Bs} {n:BitVec 64} {j:Nat} (hj:1≤j) (i:Nat) (hi:i<b.length+j) :
  upd (bytesF (b.length+j) (L (b++partL n j j))) b.length (.w8 (L (b++partL n j j) b.length ||| markB j)) i=.w8 (L (b++wideL n j) i):=by
 refine upd_bytes (by omega) (congrArg SC.w8 ?_) (fun q hq=>?_) i hi
 ·rw [L_app,L_app,if_neg (by omega),if_neg (by omega),Nat.sub_self,L_part (by omega),L_wide (by omega),if_pos rfl,Nat.sub_zero]
 ·by_cases h:q<b.length+j
  ·rw [L_app,L_app]
   by_cases h1:q<b.length
   ·rw [if_pos h1,if_pos h1]
   ·rw [if_neg h1,if_neg h1,L_part (by omega),L_wide (by omega),if_neg (by omega)]
  ·have e1:(b++partL n j j).length≤q:=by simp; omega
   have e2:(b++wideL n j).length≤q:=by simp; omega
   unfold L
   rw [List.getD_eq_getElem?_getD,List.getD_eq_getElem?_getD,List.getElem?_eq_none e1,List.getElem?_eq_none e2]
set_option maxRecDepth 20000 in
theorem fn_vattach (b:Bs) (c:Nat) (n:BitVec 64) (k:Nat) (hk:okSz k) (hb:b.length≤1000000) (hc:b.length≤c):Fn Try.prog tds 67 [lsC b c] [.c (.sl 0 0 0 b.length c),.c (.w64 n),.c (.int .i64 (k:Nat))] (fun _=>True)
  (fun x hs=>∃ c',b.length+k≤c'∧x=.a (.c (.sl 1 0 0 (b++wideL n k).length c'))∧hs=[[],lsC (b++wideL n k) c']):=by
 refine fn_of_body tds_ok follows_ Try.func67 rfl (t:=[.a (.c (.sl 0 0 0 b.length c)),.a (.c (.w64 (n))),.a (.c (.int .i64 ((k:Nat)))),.any,.any,.any,.any,.any,.any,.any,.any,.any,.any,.any,.any,.any,.any,.any,.any,.any,.any,.any,.any,.any,.any,.any,.any,.any,.any,.any,.any,.any,.any,.any,.any,.any,.any,.any,.any,.any,.any]) rfl (fun w r0 hr _=>?_)
 obtain ⟨x0,rfl⟩:=List.length_eq_one_iff.1 hr
 have hk8:1≤k∧k≤8:=by rcases hk with rfl|rfl|rfl|rfl <;> omega
 (repeat first|refine And.intro (by omega) ?_|refine And.intro (by decide) ?_|(with_reducible refine frc_parts (by first|omega|decide) ?_)|(with_reducible refine frc_bytesL (by first|omega|decide) ?_)|refine And.intro rfl ?_)
 refine call_same (fn_vmark k hk) [] rfl (by (repeat first|exact trivial|refine ent1 ?_)) trivial (fun _ _=>trivial) ?_
 rintro x hs ⟨rfl,rfl⟩
 (repeat first|refine And.intro (by omega) ?_|refine And.intro (by decide) ?_|(with_reducible refine frc_parts (by first|omega|decide) ?_)|(with_reducible refine frc_bytesL (by first|omega|decide) ?_)|refine And.intro rfl ?_)
 refine .inl ⟨Option (Nat × Nat),fun x=>match x with
  | none=>⟨[.a (.c (.sl 0 0 0 b.length c)),.a (.c (.w64 (n))),.a (.c (.int .i64 ((k:Nat)))),.any,.any,.any,.any,.a (.c (.w8 (markB k))),.any,.a (.c (.int .i64 ((b.length:Nat)))),.a (.c (.int .i64 ((k:Int)-1))),.any,.any,.any,.any,.any,.any,.any,.any,.any,.any,.any,.any,.any,.any,.any,.any,.any,.any,.any,.any,.any,.any,.any,.any,.any,.any,.any,.any,.any,.any],[lsC b c]⟩
  | some (j,c')=>⟨[.a (.c (.sl 1 0 0 (b.length+j) c')),.a (.c (.w64 (n))),.a (.c (.int .i64 ((k:Nat)))),.any,.any,.any,.any,.a (.c (.w8 (markB k))),.any,.a (.c (.int .i64 ((b.length:Nat)))),.a (.c (.int .i64 ((k:Int)-1-(j:Int)))),.any,.any,.any,.any,.any,.any,.any,.any,.any,.any,.any,.any,.any,.any,.any,.any,.any,.any,.any,.any,.any,.any,.any,.any,.any,.any,.any,.any,.any,.any],[[],[.row c' (bytesF (b.length+j) (L (b++partL n k j)))]]⟩,
  fun x=>match x with
  | none=>True
  | some (j,c')=>1≤j∧j≤k∧b.length+j≤c',fun x=>match x with
  | none=>9
  | some (j,_)=>8-j,⟨none,[0],⟨⟨rfl,rfl,rfl⟩,?_⟩,trivial⟩,fun x=>?_⟩
 ·(repeat first|exact trivial|refine ent1 ?_)
 rcases x with _|⟨j,c'⟩
 ·intro _
  have e1:decide (0≤(k:Int)-1)=true:=decide_eq_true (by omega)
  (repeat first|refine And.intro (by omega) ?_|refine And.intro (by decide) ?_|refine And.intro rfl ?_|refine And.intro (fun _=>?_) (fun h=>Bool.noConfusion h)|refine And.intro (fun h=>Bool.noConfusion h) (fun _=>?_)|refine And.intro (fun _=>?_) (fun h=>absurd h (by rw [e1]; decide))|refine And.intro (fun h=>absurd h (by rw [e1]; decide)) (fun _=>?_))
  refine ⟨⟨by omega,by simp only [scale]; omega,by show (b.length+1)*1≤140737488355328; omega⟩,fun c' hc'=>?_⟩
  refine ⟨⟨by omega,by omega⟩,some (1,c'),[0,2],⟨⟨rfl,rfl,rfl⟩,?_⟩,⟨by omega,by omega,by omega⟩,by show 8-1<9; omega⟩
  (repeat first|exact trivial|refine ent1 ?_)
  refine ⟨fun j hj=>eqC_bytes (fun i hi=>?_) j,trivial⟩
  rw [partL_one]
  exact app_row rfl rfl (fun i hi=>bytesF_lt hi) (fun i hi=>one_row (by have:=byte_at n k 0 (by omega) (by omega); simpa using this) i hi) i hi
 ·rintro ⟨h1,h2,h3⟩
  refine ⟨fun h=>?_,fun h=>?_⟩
  ·have hj:j<k:=by have:(0:Int)≤(k:Int)-1-j:=of_decide_eq_true h; omega
   (repeat first|refine And.intro (by omega) ?_|refine And.intro (by decide) ?_|(with_reducible refine frc_parts (by first|omega|decide) ?_)|(with_reducible refine frc_bytesL (by first|omega|decide) ?_)|refine And.intro rfl ?_)
   refine ⟨⟨by omega,by simp only [scale]; omega,by show (b.length+j+1)*1≤140737488355328; omega⟩,fun c2 hc2=>?_⟩
   refine ⟨⟨by omega,by omega⟩,some (j+1,c2),[0,3],⟨⟨rfl,rfl,rfl⟩,?_⟩,⟨by omega,by omega,by omega⟩,by dsimp only; omega⟩
   (repeat first|exact trivial|refine ent1 ?_)
   refine ⟨fun j' hj'=>eqC_bytes (fun i hi=>?_) j',trivial⟩
   rw [partL_succ,← List.append_assoc]
   exact app_row (by simp) rfl (fun i hi=>bytesF_lt hi) (fun i hi=>one_row (byte_at n k j hj (by omega)) i hi) i hi
  ·obtain rfl:j=k:=by have:¬ (0:Int)≤(k:Int)-1-j:=of_decide_eq_false h; omega
   (repeat first|refine And.intro (by omega) ?_|refine And.intro (by decide) ?_|(with_reducible refine frc_parts (by first|omega|decide) ?_)|(with_reducible refine frc_bytesL (by first|omega|decide) ?_)|refine And.intro rfl ?_)
   refine ⟨.a (.c (.sl 1 0 0 (b++wideL n j).length c')),_,⟨[0,1],⟨rfl,rfl,rfl⟩,?_⟩,c',h3,rfl,rfl⟩
   refine ⟨rfl,by simp,rfl,?_⟩
   (repeat first|exact trivial|refine ent1 ?_)
   refine ⟨fun i hi=>eqC_bytes (fun i hi=>?_) i,trivial⟩
   have hi:i<b.length+j:=by simpa using hi
   exact wide_row (by omega) i hi
set_option maxRecDepth 20000 in
theorem fn_vattach0 (n:BitVec 64) (k:Nat) (hk:okSz k):Fn Try.prog tds 67 [] [.c (.slc none 0 0),.c (.w64 n),.c (.int .i64 (k:Nat))] (fun _=>True)
  (fun x hs=>∃ c',k≤c'∧x=.a (.c (.sl 0 0 0 (wideL n k).length c'))∧hs=[lsC (wideL n k) c']):=by
 refine fn_of_body tds_ok follows_ Try.func67 rfl (t:=[.a (.c (.slc none 0 0)),.a (.c (.w64 (n))),.a (.c (.int .i64 ((k:Nat)))),.any,.any,.any,.any,.any,.any,.any,.any,.any,.any,.any,.any,.any,.any,.any,.any,.any,.any,.any,.any,.any,.any,.any,.any,.any,.any,.any,.any,.any,.any,.any,.any,.any,.any,.any,.any,.any,.any]) rfl (fun w r0 hr _=>?_)
 obtain rfl:r0=[]:=List.eq_nil_of_length_eq_zero hr
 have hk8:1≤k∧k≤8:=by rcases hk with rfl|rfl|rfl|rfl <;> omega
 (repeat first|refine And.intro (by omega) ?_|refine And.intro (by decide) ?_|(with_reducible refine frc_parts (by first|omega|decide) ?_)|(with_reducible refine frc_bytesL (by first|omega|decide) ?_)|refine And.intro rfl ?_)
 refine call_same (fn_vmark k hk) [] rfl (by (repeat first|exact trivial|refine ent1 ?_)) trivial (fun _ _=>trivial) ?_
 rintro x hs ⟨rfl,rfl⟩
 (repeat first|refine And.intro (by omega) ?_|refine And.intro (by decide) ?_|(with_reducible refine frc_parts (by first|omega|decide) ?_)|(with_reducible refine frc_bytesL (by first|omega|decide) ?_)|refine And.intro rfl ?_)
 refine .inl ⟨Option (Nat × Nat),fun x=>match x with
  | none=>⟨[.a (.c (.slc none 0 0)),.a (.c (.w64 (n))),.a (.c (.int .i64 ((k:Nat)))),.any,.any,.any,.any,.a (.c (.w8 (markB k))),.any,.a (.c (.int .i64 (0))),.a (.c (.int .i64 ((k:Int)-1))),.any,.any,.any,.any,.any,.any,.any,.any,.any,.any,.any,.any,.any,.any,.any,.any,.any,.any,.any,.any,.any,.any,.any,.any,.any,.any,.any,.any,.any,.any],[]⟩
  | some (j,c')=>⟨[.a (.c (.sl 0 0 0 j c')),.a (.c (.w64 (n))),.a (.c (.int .i64 ((k:Nat)))),.any,.any,.any,.any,.a (.c (.w8 (markB k))),.any,.a (.c (.int .i64 (0))),.a (.c (.int .i64 ((k:Int)-1-(j:Int)))),.any,.any,.any,.any,.any,.any,.any,.any,.any,.any,.any,.any,.any,.any,.any,.any,.any,.any,.any,.any,.any,.any,.any,.any,.any,.any,.any,.any,.any,.any],[[.row c' (bytesF j (L (partL n k j)))]]⟩,
  fun x=>match x with
  | none=>True
  | some (j,c')=>1≤j∧j≤k∧j≤c',fun x=>match x with
  | none=>9
  | some (j,_)=>8-j,⟨none,[],⟨⟨rfl,rfl,rfl⟩,?_⟩,trivial⟩,fun x=>?_⟩
 ·(repeat first|exact trivial|refine ent1 ?_)
 rcases x with _|⟨j,c'⟩
 ·intro _
  have e1:decide (0≤(k:Int)-1)=true:=decide_eq_true (by omega)
  (repeat first|refine And.intro (by omega) ?_|refine And.intro (by decide) ?_|refine And.intro rfl ?_|refine And.intro (fun _=>?_) (fun h=>Bool.noConfusion h)|refine And.intro (fun h=>Bool.noConfusion h) (fun _=>?_)|refine And.intro (fun _=>?_) (fun h=>absurd h (by rw [e1]; decide))|refine And.intro (fun h=>absurd h (by rw [e1]; decide)) (fun _=>?_))
  refine fun _ c' hc'=>?_
  refine ⟨⟨by omega,by omega⟩,some (1,c'),[1],⟨⟨rfl,rfl,rfl⟩,?_⟩,⟨by omega,by omega,by omega⟩,by show 8-1<9; omega⟩
  (repeat first|exact trivial|refine ent1 ?_)
  refine ⟨fun j hj=>eqC_bytes (fun i hi=>?_) j,trivial⟩
  rw [partL_one]
  exact new_row (fun i hi=>one_row (by have:=byte_at n k 0 (by omega) (by omega); simpa using this) i hi) i hi
 ·rintro ⟨h1,h2,h3⟩
  refine ⟨fun h=>?_,fun h=>?_⟩
  ·have hj:j<k:=by have:(0:Int)≤(k:Int)-1-j:=of_decide_eq_true h; omega
   (repeat first|refine And.intro (by omega) ?_|refine And.intro (by decide) ?_|(with_reducible refine frc_parts (by first|omega|decide) ?_)|(with_reducible refine frc_bytesL (by first|omega|decide) ?_)|refine And.intro rfl ?_)
   refine ⟨⟨by omega,by simp only [scale]; omega,by show (j+1)*1≤140737488355328; omega⟩,fun c2 hc2=>?_⟩
   refine ⟨⟨by omega,by omega⟩,some (j+1,c2),[2],⟨⟨rfl,rfl,rfl⟩,?_⟩,⟨by omega,by omega,by omega⟩,by dsimp only; omega⟩
   (repeat first|exact trivial|refine ent1 ?_)
   refine ⟨fun j' hj'=>eqC_bytes (fun i hi=>?_) j',trivial⟩
   rw [partL_succ]
   exact app_row (by simp) rfl (fun i hi=>bytesF_lt hi) (fun i hi=>one_row (byte_at n k j hj (by omega)) i hi) i hi
  ·obtain rfl:j=k:=by have:¬ (0:Int)≤(k:Int)-1-j:=of_decide_eq_false h; omega
   (repeat first|refine And.intro (by omega) ?_|refine And.intro (by decide) ?_|(with_reducible refine frc_parts (by first|omega|decide) ?_)|(with_reducible refine frc_bytesL (by first|omega|decide) ?_)|refine And.intro rfl ?_)
   refine ⟨.a (.c (.sl 0 0 0 (wideL n j).length c')),_,⟨[0],⟨rfl,rfl,rfl⟩,?_⟩,c',h3,rfl,rfl⟩
   refine ⟨rfl,by simp,rfl,?_⟩
   (repeat first|exact trivial|refine ent1 ?_)
   refine ⟨fun i hi=>eqC_bytes (fun i hi=>?_) i,trivial⟩
   have hi:i<0+j:=by simpa using hi
   have:=wide_row (b:=[]) (n:=n) (j:=j) (by omega) i (by simpa using hi)
   simpa using this
end Sx
end
section
namespace Vi
open Sha
def putAll:List (BitVec 64)→Bs
 | []=>[]
 | n::r=>putL n++putAll r
theorem putAll_snoc:∀ (l:List (BitVec 64)) (n:BitVec 64),putAll (l++[n])=putAll l++putL n
 | [],n=>by simp [putAll]
 | x::l,n=>by simp [putAll,putAll_snoc l n]
theorem putL_len (n:BitVec 64):(putL n).length=lenN n:=wideL_len _ _
theorem lenN_le (n:BitVec 64):lenN n≤8:=by have:=lenN_spec n; omega
theorem putAll_len:∀ l:List (BitVec 64),(putAll l).length≤8*l.length
 | []=>Nat.le_refl _
 | x::l=>by
  have:=putAll_len l
  have:=lenN_le x
  simp only [putAll,List.length_append,putL_len,List.length_cons]
  omega
theorem take_succ {α:Type} {l:List α} {i:Nat} {x:α} (h:l[i]?=some x):l.take (i+1)=l.take i++[x]:=by
 rw [List.take_add_one,h]; rfl
end Vi
namespace Sx
open Sha Vi

abbrev wrN:List Seg:=[.one (.slc none 0 0),.one (.int .i64 0)]
abbrev wrC (i:Nat) (b:Bs) (c:Nat):List Seg:=[.one (.sl i 0 0 b.length c),.one (.int .i64 0)]
set_option maxRecDepth 20000 in
theorem fn_wbytes (s:Sl) (hs:s.Ok) (b:Bs) (c:Nat) (hb:b.length≤1000000) (hc:b.length≤c):FnR Try.prog tds 33 1 [svB s,wrC 2 b c,lsC b c] [.c (.p 1 0 0),.c (svC 0 s)] (fun _=>True)
  (fun y hs=>∃ c',(b++s.l).length≤c'∧y=.tup []∧hs=[svB s,wrC 3 (b++s.l) c',[],lsC (b++s.l) c']):=by
 refine fn_of_body tds_ok follows_ Try.func33 rfl (t:=.a (.c (.p 1 0 0))::.a (.c (svC 0 s))::anys (Try.f33.ntmps-2)) rfl (fun w r0 hr0 _=>?_)
 obtain ⟨x0,x1,x2,rfl⟩:=len3' hr0
 have hsm:=hs.small
 (repeat first|refine And.intro (by omega) ?_|refine And.intro (by decide) ?_|refine And.intro rfl ?_|refine And.intro (fun _=>?_) (fun h=>Bool.noConfusion h)|refine And.intro (fun h=>Bool.noConfusion h) (fun _=>?_))
 refine sn_bts rfl hs.fit (fun h=>by rw [hs.nil h]; rfl) (fun g hg=>?_)
 refine ⟨⟨hc,by simp only [scale]; omega,by show (b.length+s.l.length)*1≤140737488355328; omega⟩,fun c' hc'=>?_⟩
 (repeat first|refine And.intro (by omega) ?_|refine And.intro (by decide) ?_|refine And.intro rfl ?_|refine And.intro (fun _=>?_) (fun h=>Bool.noConfusion h)|refine And.intro (fun h=>Bool.noConfusion h) (fun _=>?_))
 refine ⟨.tup [],_,⟨[0,1,2,3],⟨rfl,rfl,rfl⟩,?_⟩,c',by simpa using hc',rfl,rfl⟩
 refine eqC_bts ?_
 refine ⟨rfl,by simp,?_⟩
 (repeat first|exact trivial|refine ent1 ?_)
 refine ⟨fun j hj=>eqC_bytes (fun i hi=>?_) j,trivial⟩
 exact app_row rfl rfl (fun i hi=>bytesF_lt hi) hg i (by simpa using hi)
def numsF (l:List (BitVec 64)):Nat→SC:=fun j=>match l[j]? with
 | some x=>.w64 x
 | none=>.any
theorem frc_nums {l:List (BitVec 64)} {j:Nat} {x:BitVec 64} {k:SC→Prop} (h:l[j]?=some x) (hk:k (.w64 x)):frcSC (numsF l j) k:=by
 unfold numsF; rw [h]; exact hk
theorem eqC_nums {q:List Nat} {l:List (BitVec 64)} {f:Nat→SC} (h:∀ (j:Nat) (x:BitVec 64),l[j]?=some x→f j=.w64 x) (j:Nat):eqC q (f j) (numsF l j) True:=by
 unfold numsF
 cases e:l[j]? with
 | none=>trivial
 | some x=>rw [h j x e]; exact ⟨rfl,trivial⟩
theorem eqC_numsS {q:List Nat} {l:List (BitVec 64)} {j:Nat}:eqC q (numsF l j) (numsF l j) True:=eqC_nums (fun j x h=>by unfold numsF; rw [h]) j
set_option maxRecDepth 20000 in
theorem fn_wint (l:List (BitVec 64)) (M cm:Nat) (b:Bs) (c:Nat) (hl:∀ n∈l,lenN n≠0) (hM:l.length≤M) (hlm:l.length≤1000) (hb:b.length≤500000) (hc:b.length≤c) :
  FnR Try.prog tds 55 1 [[.row M (numsF l)],wrC 2 b c,lsC b c] [.c (.p 1 0 0),.c (.sl 0 0 0 l.length cm)] (fun _=>True)
  (fun y hs=>(l=[]→y=.tup []∧hs=[[.row M (numsF l)],wrC 2 b c,lsC b c])∧(l≠[]→∃ c',(b++putAll l).length≤c'∧y=.tup []∧hs=[[.row M (numsF l)],wrC 3 (b++putAll l) c',[],lsC (b++putAll l) c'])):=by
 refine fn_of_body tds_ok follows_ Try.func55 rfl (t:=.a (.c (.p 1 0 0))::.a (.c (.sl 0 0 0 l.length cm))::anys (Try.f55.ntmps-2)) rfl (fun w r0 hr0 _=>?_)
 obtain ⟨x0,x1,x2,rfl⟩:=len3' hr0
 (repeat first|refine And.intro (by omega) ?_|refine And.intro (by decide) ?_|refine And.intro rfl ?_|refine And.intro (fun _=>?_) (fun h=>Bool.noConfusion h)|refine And.intro (fun h=>Bool.noConfusion h) (fun _=>?_))
 refine .inl ⟨Option (Nat × Nat × Bs),fun x=>match x with
  | none=>⟨[.a (.c (.p 1 0 0)),.any,.any,.any,.any,.any,.any,.any,.any,.any,.any,.any,.any,.any,.any,.any,.a (.c (.sl 0 0 0 l.length cm)),.a (.c (.int .i64 ((l.length:Nat)))),.a (.c (.int .i64 (0))),.any,.any,.any,.any,.any,.any,.any,.any,.any,.any,.any,.any,.any,.any,.any,.any,.any,.any,.any,.any,.any],[[.row M (numsF l)],wrC 2 b c,lsC b c]⟩
  | some (j,c',B)=>⟨[.a (.c (.p 1 0 0)),.any,.any,.any,.any,.any,.any,.any,.any,.any,.any,.any,.any,.any,.any,.any,.a (.c (.sl 0 0 0 l.length cm)),.a (.c (.int .i64 ((l.length:Nat)))),.a (.c (.int .i64 ((j:Nat)))),.any,.any,.any,.any,.any,.any,.any,.any,.any,.any,.any,.any,.any,.any,.any,.any,.any,.any,.any,.any,.any],[[.row M (numsF l)],wrC 3 B c',[],lsC B c']⟩,
  fun x=>match x with
  | none=>True
  | some (j,c',B)=>1≤j∧j≤l.length∧B.length≤c'∧B=b++putAll (l.take j),fun x=>match x with
  | none=>l.length+1
  | some (j,_,_)=>l.length-j,⟨none,[0,1,2],⟨⟨rfl,rfl,rfl⟩,?_⟩,trivial⟩,fun x=>?_⟩
 ·(repeat first|exact trivial|refine ent1 ?_)
  exact ⟨fun j hj=>eqC_numsS,by (repeat first|exact trivial|refine ent1 ?_)⟩
 rcases x with _|⟨j,c',B⟩
 ·intro _
  refine ⟨fun h=>?_,fun h=>?_⟩
  ·have hl0:0<l.length:=by have:(0:Int)<(l.length:Int):=of_decide_eq_true h; omega
   obtain ⟨n,hn⟩:∃ n,l[0]?=some n:=⟨l[0],List.getElem?_eq_getElem hl0⟩
   have hne:=hl n (List.mem_of_getElem? hn)
   (repeat first|refine And.intro (by omega) ?_|refine And.intro (by decide) ?_|(with_reducible refine frc_parts (by first|omega|decide) ?_)|(with_reducible refine frc_bytesL (by first|omega|decide) ?_)|refine And.intro rfl ?_)
   have hn':l[Int.toNat 0+0]?=some n:=hn
   with_reducible refine frc_nums hn' ?_
   (repeat first|refine And.intro (by omega) ?_|refine And.intro (by decide) ?_|(with_reducible refine frc_parts (by first|omega|decide) ?_)|(with_reducible refine frc_bytesL (by first|omega|decide) ?_)|refine And.intro rfl ?_)
   refine call_same (fn_vlen n) [] rfl (by (repeat first|exact trivial|refine ent1 ?_)) trivial (fun _ _=>trivial) ?_
   rintro x hs ⟨rfl,rfl⟩
   have e1:decide ((lenN n:Int)=0)=false:=decide_eq_false (by omega)
   (repeat first|refine And.intro (by omega) ?_|refine And.intro (by decide) ?_|refine And.intro rfl ?_|refine And.intro (fun _=>?_) (fun h=>Bool.noConfusion h)|refine And.intro (fun h=>Bool.noConfusion h) (fun _=>?_)|refine And.intro (fun _=>?_) (fun h=>absurd h (by rw [e1]; decide))|refine And.intro (fun h=>absurd h (by rw [e1]; decide)) (fun _=>?_))
   refine call_same (fn_vattach b c n (lenN n) (lenN_ok hne) (by omega) hc) [2] rfl (by (repeat first|exact trivial|refine ent1 ?_)) ?_ (fun _ _=>trivial) ?_
   ·(repeat first|exact trivial|refine ent1 ?_)
   rintro x hs ⟨c',hc',rfl,rfl⟩
   have ep:putAll (l.take 1)=wideL n (lenN n):=by
    rw [take_succ hn,putAll_snoc]; simp [putAll,putL]
   (repeat first|refine And.intro (by omega) ?_|refine And.intro (by decide) ?_|(with_reducible refine frc_parts (by first|omega|decide) ?_)|(with_reducible refine frc_bytesL (by first|omega|decide) ?_)|refine And.intro rfl ?_)
   refine ⟨some (1,c',b++wideL n (lenN n)),[0,1,2,3],⟨⟨rfl,rfl,rfl⟩,?_⟩,⟨by omega,by omega,by simpa using hc',by rw [ep]⟩,by dsimp only; omega⟩
   (repeat first|exact trivial|refine ent1 ?_)
   exact ⟨fun j hj=>eqC_numsS,by (repeat first|exact trivial|refine ent1 ?_)⟩
  ·have hl0:l=[]:=List.eq_nil_of_length_eq_zero (by have:¬ (0:Int)<(l.length:Int):=of_decide_eq_false h; omega)
   (repeat first|refine And.intro (by omega) ?_|refine And.intro (by decide) ?_|(with_reducible refine frc_parts (by first|omega|decide) ?_)|(with_reducible refine frc_bytesL (by first|omega|decide) ?_)|refine And.intro rfl ?_)
   refine ⟨.tup [],_,⟨[0,1,2],⟨rfl,rfl,rfl⟩,?_⟩,fun _=>⟨rfl,rfl⟩,fun h=>absurd hl0 h⟩
   exact ⟨rfl,fun j hj=>eqC_numsS,by (repeat first|exact trivial|refine ent1 ?_)⟩
 ·rintro ⟨h1,h2,h3,hB⟩
  refine ⟨fun h=>?_,fun h=>?_⟩
  ·have hj:j<l.length:=by have:(j:Int)<(l.length:Int):=of_decide_eq_true h; omega
   obtain ⟨n,hn⟩:∃ n,l[j]?=some n:=⟨l[j],List.getElem?_eq_getElem hj⟩
   have hne:=hl n (List.mem_of_getElem? hn)
   (repeat first|refine And.intro (by omega) ?_|refine And.intro (by decide) ?_|(with_reducible refine frc_parts (by first|omega|decide) ?_)|(with_reducible refine frc_bytesL (by first|omega|decide) ?_)|refine And.intro rfl ?_)
   have hn':l[((j:Nat):Int).toNat+0]?=some n:=hn
   with_reducible refine frc_nums hn' ?_
   (repeat first|refine And.intro (by omega) ?_|refine And.intro (by decide) ?_|(with_reducible refine frc_parts (by first|omega|decide) ?_)|(with_reducible refine frc_bytesL (by first|omega|decide) ?_)|refine And.intro rfl ?_)
   refine call_same (fn_vlen n) [] rfl (by (repeat first|exact trivial|refine ent1 ?_)) trivial (fun _ _=>trivial) ?_
   rintro x hs ⟨rfl,rfl⟩
   have e1:decide ((lenN n:Int)=0)=false:=decide_eq_false (by omega)
   (repeat first|refine And.intro (by omega) ?_|refine And.intro (by decide) ?_|refine And.intro rfl ?_|refine And.intro (fun _=>?_) (fun h=>Bool.noConfusion h)|refine And.intro (fun h=>Bool.noConfusion h) (fun _=>?_)|refine And.intro (fun _=>?_) (fun h=>absurd h (by rw [e1]; decide))|refine And.intro (fun h=>absurd h (by rw [e1]; decide)) (fun _=>?_))
   have hpl:=putAll_len (l.take j)
   have htl:(l.take j).length≤1000:=by rw [List.length_take]; omega
   refine call_same (fn_vattach B c' n (lenN n) (lenN_ok hne) (by rw [hB,List.length_append]; have:(putAll (l.take j)).length≤8*(l.take j).length:=hpl; omega) h3) [3] rfl (by (repeat first|exact trivial|refine ent1 ?_)) ?_ (fun _ _=>trivial) ?_
   ·(repeat first|exact trivial|refine ent1 ?_)
   rintro x hs ⟨c2,hc2,rfl,rfl⟩
   have ep:b++putAll (l.take (j+1))=b++putAll (l.take j)++wideL n (lenN n):=by
    rw [take_succ hn,putAll_snoc,List.append_assoc]; rfl
   (repeat first|refine And.intro (by omega) ?_|refine And.intro (by decide) ?_|(with_reducible refine frc_parts (by first|omega|decide) ?_)|(with_reducible refine frc_bytesL (by first|omega|decide) ?_)|refine And.intro rfl ?_)
   refine ⟨some (j+1,c2,B++wideL n (lenN n)),[0,1,2,4],⟨⟨rfl,rfl,rfl⟩,?_⟩,⟨by omega,by omega,by simpa using hc2,by rw [ep,hB]⟩,by dsimp only; omega⟩
   (repeat first|exact trivial|refine ent1 ?_)
   exact ⟨fun j hj=>eqC_numsS,by (repeat first|exact trivial|refine ent1 ?_)⟩
  ·have hj:j=l.length:=by have:¬ (j:Int)<(l.length:Int):=of_decide_eq_false h; omega
   subst hj
   rw [List.take_length] at hB
   subst hB
   (repeat first|refine And.intro (by omega) ?_|refine And.intro (by decide) ?_|(with_reducible refine frc_parts (by first|omega|decide) ?_)|(with_reducible refine frc_bytesL (by first|omega|decide) ?_)|refine And.intro rfl ?_)
   refine ⟨.tup [],_,⟨[0,1,2,3],⟨rfl,rfl,rfl⟩,?_⟩,fun h=>absurd h (by intro e; subst e; simp at h1),fun _=>⟨c',h3,rfl,rfl⟩⟩
   exact ⟨rfl,fun j hj=>eqC_numsS,by (repeat first|exact trivial|refine ent1 ?_)⟩
end Sx
end
end Go.Proofs.Ytgmbfaefadefjaa
