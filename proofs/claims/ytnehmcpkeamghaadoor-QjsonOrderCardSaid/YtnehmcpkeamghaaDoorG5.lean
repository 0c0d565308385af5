/-
  Texts of this claim, part 5: Sxq, Tds, Frc, Bts, JsU, JsM, JsP, JsQ, JsR, Sxy, Sxz, Sxzn, ViM, VsA, Rw, EoA, EoB, QjA, JsT, Sxzf, JsA, VwA, JsE, Shf. No condition of its own.
-/
import Derived.Lib.DecodeN
import Derived.Lib.ValidU
import Derived.Lib.ItoaNum
import Derived.Lib.Bytealg
import Derived.Shelf.Small.Strs
import Derived.Shelf.Strconv.Itoa1
import Derived.Shelf.Unicode.DecodeAny
import Derived.Shelf.Unicode.ValidAny
import Derived.Test.YtnehmcpkeamghaaDoorRows
import Derived.Test.YtnehmcpkeamghaaDoorG4
namespace Go.Proofs.YtnehmcpkeamghaaDoor
set_option linter.unusedVariables false
section
namespace Sx
open Go.RowKit

section
variable {C : Cx}
def Fin (C:Cx) (v:SV) (h:List (List Seg)) (x:SV) (hs:List (List Seg)):Prop:=∃ q,Ent C q ⟨[v],h⟩ ⟨[x],hs⟩
theorem Fin.ok {v x:SV} {h hs:List (List Seg)} (f:Fin C v h x hs) {r:Rho} {w:World} {u:Value} (hu:v.Is r u) (ok:HeapOk C h r w):∃ r',x.Is r' u∧HeapOk C hs r' w:=by
 obtain ⟨q,e⟩:=f
 have ok1:Ok C ⟨[v],h⟩ r { tmps:=#[u],defers:=[] } w:=⟨ok,rfl,fun d y e=>by
  cases d with
  | zero=>simp at e; subst e; exact hu
  | succ d=>simp at e,rfl⟩
 obtain ⟨r',ok2⟩:=e.ok ok1
 exact ⟨r',ok2.slots 0 x rfl,ok2.heap⟩
end
abbrev cx0 (P:Program) (T:List (Nat × TD)) (w:World) (r0:Rho) (n:Nat) (h0:List (List Seg)):Cx:=⟨P,T,w,(r0.drop n).map (·.1),r0,n,fun i=>flat (getH h0 i)≠[],fun B=>∃ (i:Nat) (W:World) (ms:List Nat),h0[i]?=some [.past W ms]∧B<W.heap.size∧B ∉ ms⟩
def FnR (P:Program) (T:List (Nat × TD)) (f:FuncId) (n:Nat) (h0:List (List Seg)) (args:List SA) (raw:World→Prop) (Res:SV→List (List Seg)→Prop):Prop :=
 ∀ (w:World) (r0:Rho) (vs:List Value),HeapOk (cx0 P T w r0 n h0) h0 r0 w→IsAs r0 args vs→raw w→Calls P f vs.toArray w fun e w' =>
  ∃ v x hs r',e=.returned v∧SV.Is r' x v∧HeapOk (cx0 P T w r0 n h0) hs r' w'∧Res x hs
abbrev Fn (P:Program) (T:List (Nat × TD)) (f:FuncId) (h0:List (List Seg)) (args:List SA) (raw:World→Prop) (Res:SV→List (List Seg)→Prop):Prop:=FnR P T f 0 h0 args raw Res
def anys:Nat→List SV
 | 0=>[]
 | n+1=>.any::anys n
theorem anys_len:∀ n,(anys n).length=n
 | 0=>rfl
 | n+1=>by simp [anys,anys_len n]
theorem anys_get:∀ (n d:Nat) (x:SV),(anys n)[d]?=some x→x=.any
 | 0,_,_,e=>by simp [anys] at e
 | n+1,0,_,e=>by simp [anys] at e; exact e.symm
 | n+1,d+1,x,e=>anys_get n d x (by simpa [anys] using e)
theorem fn_of_body {P:Program} {T:List (Nat × TD)} (hT:AllT P T) (hm:P.follows .mixedOrders=true) {f:FuncId} {fn:Func} {c:Code} (hf:P.funcs[f]?=some fn) (hb:fn.body=some c) {n:Nat} {h0:List (List Seg)} {args:List SA} {raw:World→Prop} {Res:SV→List (List Seg)→Prop}
  {t:List SV} (ht:t=args.map SV.a++anys (fn.ntmps-args.length))
  (h:∀ (w:World) (r0:Rho),r0.length=h0.length→raw w→Body (cx0 P T w r0 n h0) fn c ⟨t,h0⟩ fun v h'=>∃ x hs,Fin (cx0 P T w r0 n h0) v h' x hs∧Res x hs):FnR P T f n h0 args raw Res:=by
 intro w r0 vs ok ha hraw
 subst ht
 have hlen:vs.toArray.size=args.length:=by rw [ha.1]; simp
 refine calls_of_body (C:=cx0 P T w r0 n h0) hT hm hf hb (s:=⟨args.map SV.a++anys (fn.ntmps-args.length),h0⟩) (r:=r0) ⟨ok,?_,fun d x e=>?_,rfl⟩ (h w r0 ok.len hraw) ?_
 ·simp [anys_len,ha.1]
 ·by_cases hd:d<args.length
  ·rw [List.getElem?_append_left (by simpa using hd),List.getElem?_map] at e
   obtain ⟨y,hy,rfl⟩:=Option.map_eq_some_iff.1 e
   obtain ⟨u,hu,hi⟩:=ha.2 d y hy
   have:(vs.toArray++Array.replicate (fn.ntmps-vs.toArray.size) undef).getD d undef=u:=by
    rw [Array.getD_eq_getD_getElem?,Array.getElem?_append_left (by rw [hlen]; exact hd)]
    simp [hu]
   rw [this]
   exact hi
  ·rw [List.getElem?_append_right (by simpa using Nat.le_of_not_lt hd)] at e
   rw [anys_get _ _ _ e]
   trivial
 ·rintro v y h' r' w' ⟨x,hs,hf,hr⟩ hy hok
  obtain ⟨r'',hx,hok'⟩:=hf.ok hy hok
  exact ⟨v,x,hs,r'',rfl,hx,hok',hr⟩
/-! Back at the caller's. -/
def bk (N:Nat):List Nat→Nat→Nat
 | [],j=>N+j
 | x::_,0=>x
 | _::q,j+1=>bk N q j
def SC.mp (g:Nat→Nat):SC→SC
 | .p i b o=>.p (g i) b o
 | .sl i b o n c=>.sl (g i) b o n c
 | .clo f i b o=>.clo f (g i) b o
 | .cap f i b o=>.cap f (g i) b o
 | .cap2 f i b o j c d=>.cap2 f (g i) b o (g j) c d
 | .sn z i b o n c=>.sn z (g i) b o n c
 | .mh i=>.mh (g i)
 | .ih i=>.ih (g i)
 | x=>x
def Seg.mp (g:Nat→Nat):Seg→Seg
 | .one x=>.one (x.mp g)
 | .row n f=>.row n (fun j=>(f j).mp g)
 | .obj m=>.obj m
 | .past w ms=>.past w ms
def mpL (g:Nat→Nat):List Seg→List Seg
 | []=>[]
 | x::r=>x.mp g::mpL g r
def SA.mp (g:Nat→Nat):SA→SA
 | .c x=>.c (x.mp g)
 | .agg l=>.agg (mpL g l)
def SV.mp (g:Nat→Nat):SV→SV
 | .any=>.any
 | .a x=>.a (x.mp g)
 | .tup l=>.tup (l.map (SA.mp g))
theorem flat_mp (g:Nat→Nat):∀ l:List Seg,flat (mpL g l)=(flat l).map (SC.mp g)
 | []=>rfl
 | .one x::r=>by simp [mpL,Seg.mp,flat,flat_mp g r]
 | .row n f::r=>by simp [mpL,Seg.mp,flat,flat_mp g r,Function.comp_def]
 | .obj _::r=>by simp [mpL,Seg.mp,flat,flat_mp g r]
 | .past _ _::r=>by simp [mpL,Seg.mp,flat,flat_mp g r]
theorem mpL_obj {g:Nat→Nat} {l:List Seg} {m:MapD} (h:[.obj m]=mpL g l):l=[.obj m]:=by
 cases l with
 | nil=>cases h
 | cons x r =>
  simp only [mpL,List.cons.injEq] at h
  have hr:r=[]:=by cases r <;> first|rfl|cases h.2
  subst hr
  cases x <;> simp [Seg.mp] at h
  obtain ⟨rfl,_⟩:=h; rfl
theorem mpL_past {g:Nat→Nat} {l:List Seg} {W:World} {ms:List Nat} (h:[.past W ms]=mpL g l):l=[.past W ms]:=by
 cases l with
 | nil=>cases h
 | cons x r =>
  simp only [mpL,List.cons.injEq] at h
  have hr:r=[]:=by cases r <;> first|rfl|cases h.2
  subst hr
  cases x <;> simp [Seg.mp] at h
  obtain ⟨⟨rfl,rfl⟩,_⟩:=h; rfl
section
variable {g : Nat → Nat} {r' R : Rho}
theorem SC.Is.mp (hg:∀ (i:Nat) (x:Nat × Nat),r'[i]?=some x→R[g i]?=some x) {x:SC} {v:Value} (h:x.Is r' v):(x.mp g).Is R v:=by
 cases x <;> first
  | exact h
  | (obtain ⟨B,f,e,rfl⟩:=h; exact ⟨B,f,hg _ _ e,rfl⟩)
  | (obtain ⟨B,f,e,B',f',e',rfl⟩:=h; exact ⟨B,f,hg _ _ e,B',f',hg _ _ e',rfl⟩)
  | (rcases h with ⟨h1,h2⟩|⟨h1,B,f,e,h2⟩|h; exact .inl ⟨h1,h2⟩; exact .inr (.inl ⟨h1,B,f,hg _ _ e,h2⟩); exact .inr (.inr h))
theorem SA.Is.mp (hg:∀ (i:Nat) (x:Nat × Nat),r'[i]?=some x→R[g i]?=some x) {x:SA} {v:Value} (h:x.Is r' v):(x.mp g).Is R v:=by
 cases x with
 | c x=>exact SC.Is.mp hg (x:=x) h
 | agg l =>
  obtain ⟨vs,e,h1,h2⟩:=h
  refine ⟨vs,e,by rw [flat_mp]; simpa using h1,fun j y e'=>?_⟩
  rw [flat_mp,List.getElem?_map,Option.map_eq_some_iff] at e'
  obtain ⟨z,hz,rfl⟩:=e'
  obtain ⟨u,e1,e2⟩:=h2 j z hz
  exact ⟨u,e1,e2.mp hg⟩
theorem SV.Is.mp (hg:∀ (i:Nat) (x:Nat × Nat),r'[i]?=some x→R[g i]?=some x) {x:SV} {v:Value} (h:x.Is r' v):(x.mp g).Is R v:=by
 cases x with
 | any=>trivial
 | a x=>exact SA.Is.mp hg (x:=x) h
 | tup l =>
  obtain ⟨vs,e,h1,h2⟩:=h
  refine ⟨vs,e,by simpa using h1,fun j y e'=>?_⟩
  rw [List.getElem?_map,Option.map_eq_some_iff] at e'
  obtain ⟨z,hz,rfl⟩:=e'
  obtain ⟨u,e1,e2⟩:=h2 j z hz
  exact ⟨u,e1,e2.mp hg⟩
theorem At.mp (hg:∀ (i:Nat) (x:Nat × Nat),r'[i]?=some x→R[g i]?=some x) {w:World} {B off:Nat} {l:List Seg} {z:Bool} (h:At z r' w B off (flat l)):At z R w B off (flat (mpL g l)):=by
 intro j y e
 rw [flat_mp,List.getElem?_map,Option.map_eq_some_iff] at e
 obtain ⟨z,hz,rfl⟩:=e
 obtain ⟨v,e1,e2,e3⟩:=h j z hz
 exact ⟨v,e1,e2.mp hg,e3⟩
end
def back (g:Nat→Nat):List Nat→List (List Seg)→List (List Seg)→List (List Seg)
 | [],hs,h=>h++hs.map (mpL g)
 | i::q,c::hs,h=>back g q hs (h.set i (mpL g c))
 | _::_,[],h=>h
theorem back_get (g:Nat→Nat):∀ (q:List Nat) (hs h:List (List Seg)),q.Nodup→(∀ i∈q,i<h.length)→q.length≤hs.length →
  (back g q hs h).length=h.length+(hs.length-q.length) ∧
  (∀ (k i:Nat),q[k]?=some i→(back g q hs h)[i]?=(hs[k]?).map (mpL g)) ∧
  (∀ (j:Nat),j<h.length→j ∉ q→(back g q hs h)[j]?=h[j]?) ∧
  (∀ (j:Nat),(back g q hs h)[h.length+j]?=(hs[q.length+j]?).map (mpL g))
 | [],hs,h,_,_,_=>⟨by simp [back],fun k i e=>by simp at e,fun j hj _=>by simp [back,List.getElem?_append_left hj],fun j=>by simp only [back]; rw [List.getElem?_append_right (by omega),List.getElem?_map]; simp⟩
 | i::q,c::hs,h,hn,hq,hl=>by
  obtain ⟨h1,h2⟩:=List.nodup_cons.1 hn
  obtain ⟨b1,b2,b3,b4⟩:=back_get g q hs (h.set i (mpL g c)) h2 (fun j hj=>by simpa using hq j (by simp [hj])) (by simpa using hl)
  simp only [List.length_set] at b1 b3 b4
  refine ⟨by simp only [back,b1,List.length_cons]; omega,fun k j e=>?_,fun j hj hnj=>?_,fun j=>?_⟩
  ·cases k with
   | zero =>
    simp at e
    subst e
    simp only [back,List.getElem?_cons_zero,Option.map_some]
    rw [b3 i (hq i (by simp)) h1]
    simp [hq i (by simp)]
   | succ k=>simpa [back] using b2 k j (by simpa using e)
  ·simp only [List.mem_cons,not_or] at hnj
   simp only [back]
   rw [b3 j hj hnj.2,List.getElem?_set_ne (Ne.symm hnj.1)]
  ·simp only [back,b4,List.length_cons]
   congr 1
   rw [show q.length+1+j=(q.length+j)+1 by omega]; rfl
 | _::_,[],_,_,_,hl=>by simp at hl
theorem bk_get (N:Nat):∀ (q:List Nat) (k:Nat),(∀ i,q[k]?=some i→bk N q k=i)∧(q.length≤k→bk N q k=N+(k-q.length))
 | [],k=>⟨fun i e=>by simp at e,fun _=>by simp [bk]⟩
 | x::q,0=>⟨fun i e=>by simp at e; simp [bk,e],fun h=>by simp at h⟩
 | x::q,k+1=>⟨fun i e=>by simpa [bk] using (bk_get N q k).1 i (by simpa using e),fun h=>by simp only [bk]; rw [(bk_get N q k).2 (by simpa using h)]; simp⟩
theorem HeapOk.back {C:Cx} {h hs:List (List Seg)} {r r':Rho} {w w':World} (ok:HeapOk C h r w) {q:List Nat} {n:Nat} (hnq:n≤q.length) (hn:(q.drop n).Nodup) (hq:∀ i∈q,i<h.length) (hne:∀ i∈q.drop n,getH h i≠[]) (hwr:∀ i∈q.drop n,C.ro≤i) {lv sf:Nat→Prop} (hsf:∀ B,sf B→∃ (i:Nat) (W:World) (ms:List Nat),h[i]?=some [.past W ms]∧B<W.heap.size∧B ∉ ms)
  (ok':HeapOk ⟨C.P,C.T,w,((rn q r).drop n).map (·.1),rn q r,n,lv,sf⟩ hs r' w') :
  let R:=r++r'.drop q.length
  let g:=bk h.length q
  HeapOk C (Sx.back g (q.drop n) (hs.drop n) h) R w'∧RLe r R∧(∀ (i:Nat) (x:Nat × Nat),r'[i]?=some x→R[g i]?=some x)∧(q.drop n=[]→Ext [] w w') ∧
  (∀ (k:Nat) (w1:World) (ms:List Nat),hs[k]?=some [.past w1 ms]→Ext ms w1 w'∧(∀ B,B<w.heap.size→B<w1.heap.size→B ∉ ms→∃ (i:Nat) (W:World) (ms:List Nat),h[i]?=some [.past W ms]∧B<W.heap.size∧B ∉ ms) ∧
   ∀ (j B f:Nat),C.ro≤j→R[j]?=some (B,f)→B<w1.heap.size→B∈ms) ∧
  (∀ (i:Nat) (W:World) (ms:List Nat),i ∉ q.drop n→h[i]?=some [.past W ms]→(Sx.back g (q.drop n) (hs.drop n) h)[i]?=some [.past W ms]) ∧
  (∀ (i:Nat) (W:World) (ms:List Nat),(Sx.back g (q.drop n) (hs.drop n) h)[i]?=some [.past W ms]→(h[i]?=some [.past W ms])∨∃ k:Nat,hs[k]?=some [.past W ms]):=by
 intro R g
 have hlen:r.length=h.length:=ok.len
 have hlen':r'.length=hs.length:=ok'.len
 have hqr:∀ i∈q,i<r.length:=fun i hi=>by rw [hlen]; exact hq i hi
 have hqs:∀ i∈q.drop n,i∈q:=fun i hi=>List.mem_of_mem_drop hi
 have hpre:∀ (k j:Nat),q[k]?=some j→r'[k]?=r[j]?:=fun k j e=>by
  have hj:=hqr j (List.mem_of_getElem? e)
  have e1:=rn_get hqr e
  rw [List.getElem?_eq_getElem hj] at e1 ⊢
  exact ok'.agree k _ e1
 have hql:q.length≤r'.length:=by
  rcases Nat.lt_or_ge r'.length q.length with hlt|h
  ·have e1:=hpre r'.length q[r'.length] (List.getElem?_eq_getElem hlt)
   rw [List.getElem?_eq_none (Nat.le_refl _),List.getElem?_eq_getElem (hqr _ (List.getElem_mem _))] at e1
   cases e1
  ·exact h
 obtain ⟨b1,b2,b3,b4⟩:=back_get g (q.drop n) (hs.drop n) h hn (fun i hi=>hq i (hqs i hi)) (by simp only [List.length_drop]; omega)
 have hR1:∀ j,j<r.length→R[j]?=r[j]?:=fun j hj=>List.getElem?_append_left hj
 have hR2:∀ j,R[r.length+j]?=r'[q.length+j]?:=fun j=>by
  rw [List.getElem?_append_right (by omega),List.getElem?_drop]; congr 1; omega
 have hg:∀ (i:Nat) (x:Nat × Nat),r'[i]?=some x→R[g i]?=some x:=by
  intro i x e
  by_cases hi:i<q.length
  ·have e1:=List.getElem?_eq_getElem hi
   rw [show g i=q[i] from (bk_get h.length q i).1 _ e1,hR1 _ (hqr _ (List.getElem_mem _)),← hpre i _ e1]
   exact e
  ·rw [show g i=h.length+(i-q.length) from (bk_get h.length q i).2 (by omega),← hlen,hR2,show q.length+(i-q.length)=i by omega]
   exact e
 have hm':∀ B,B∈((rn q r).drop n).map (·.1)→∃ i,i∈q.drop n∧∃ f,r[i]?=some (B,f):=by
  intro B hB
  obtain ⟨k,f,hk,e⟩:=mem_drop.1 hB
  cases hqk:q[k]? with
  | none=>simp [rn,hqk] at e
  | some j =>
   rw [rn_get hqr hqk] at e
   exact ⟨j,List.mem_of_getElem? (i:=k-n) (by rw [List.getElem?_drop,show n+(k-n)=k by omega]; exact hqk),f,e⟩
 have hext:Ext C.m C.w0 w':=ok.ext.trans2 ok'.ext (fun B hB=>by
  obtain ⟨i,hi,f,e⟩:=hm' B hB
  exact ok.own i B f (hwr i hi) e)
 have cases_:∀ (j B f:Nat) (c:List Seg),(Sx.back g (q.drop n) (hs.drop n) h)[j]?=some c→R[j]?=some (B,f)→(j<h.length∧j ∉ q.drop n∧h[j]?=some c∧r[j]?=some (B,f))∨(∃ k c',n≤k∧g k=j∧hs[k]?=some c'∧c=mpL g c'∧r'[k]?=some (B,f)):=by
  intro j B f c hc hr
  by_cases hj:j<h.length
  ·by_cases hjq:j∈q.drop n
   ·obtain ⟨k,hk,rfl⟩:=List.mem_iff_getElem.1 hjq
    have e1:=List.getElem?_eq_getElem hk
    rw [b2 k _ e1,Option.map_eq_some_iff] at hc
    obtain ⟨c',hc',rfl⟩:=hc
    rw [List.getElem?_drop] at hc' e1
    rw [hR1 _ (hqr _ (hqs _ hjq)),← hpre (n+k) _ e1] at hr
    exact .inr ⟨n+k,c',by omega,(bk_get h.length q (n+k)).1 _ e1,hc',rfl,hr⟩
   ·rw [b3 j hj hjq] at hc
    rw [hR1 j (by omega)] at hr
    exact .inl ⟨hj,hjq,hc,hr⟩
  ·obtain ⟨d,rfl⟩:∃ d,j=h.length+d:=⟨j-h.length,by omega⟩
   rw [b4,Option.map_eq_some_iff] at hc
   obtain ⟨c',hc',rfl⟩:=hc
   rw [List.getElem?_drop,List.length_drop,show n+(q.length-n+d)=q.length+d by omega] at hc'
   rw [← hlen,hR2] at hr
   exact .inr ⟨q.length+d,c',by omega,by rw [show g (q.length+d)=h.length+(q.length+d-q.length) from (bk_get h.length q _).2 (by omega)]; omega,hc',rfl,hr⟩
 have where_:∀ (k B f:Nat),n≤k→r'[k]?=some (B,f)→(∃ i,i∈q.drop n∧∃ f',r[i]?=some (B,f'))∨w.heap.size≤B:=by
  intro k B f hk e
  rcases ok'.own k B f hk e with hm|hm
  ·exact .inl (hm' B hm)
  ·exact .inr hm
 have hhi:∀ i∈q.drop n,h[i]?=some (getH h i):=fun i hi=>by rw [getH_eq,List.getElem?_eq_getElem (hq i (hqs i hi))]; rfl
 have old:∀ (j B f:Nat) (c:List Seg),j ∉ q.drop n→h[j]?=some c→r[j]?=some (B,f)→flat c≠[]→B ∉ ((rn q r).drop n).map (·.1):=by
  intro j B f c hjq hc hr hf hm
  obtain ⟨i,hi,f',e⟩:=hm' B hm
  exact hf (ok.sep (fun e=>hjq (by rw [e]; exact hi)) (hwr i hi) hc (hhi i hi) hr e (hne i hi))
 have old2:∀ (j B f:Nat) (c:List Seg),C.ro≤j→j ∉ q.drop n→h[j]?=some c→r[j]?=some (B,f)→c=[]∨((∀ i∈q.drop n,∀ f',r[i]?≠some (B,f'))∧B<w.heap.size):=by
  intro j B f c ho hjq hc hr
  by_cases hex:∃ i,i∈q.drop n∧∃ f',r[i]?=some (B,f')
  ·obtain ⟨i,hi,f',hf'⟩:=hex
   rcases ok.apart j i B f f' c _ (fun e=>hjq (by rw [e]; exact hi)) ho (hwr i hi) hc (hhi i hi) hr hf' with h1|h1
   ·exact .inl h1
   ·exact absurd h1 (hne i hi)
  ·exact .inr ⟨fun i hi f' e=>hex ⟨i,hi,f',e⟩,ok.lt j B f ho hr⟩
 have hrl:=ok.rlen
 have hrl2:=ok.rol
 have two:∀ j:Nat,j<r.length∨∃ d,j=r.length+d:=fun j=>by
  rcases Nat.lt_or_ge j r.length with h|h
  ·exact .inl h
  ·exact .inr ⟨j-r.length,by omega⟩
 have pold:∀ (i:Nat) (w1:World) (ms:List Nat),h[i]?=some [.past w1 ms]→Ext ms w1 w'∧(∀ B,B<C.w0.heap.size→B<w1.heap.size→B ∉ ms→C.safe B)∧∀ (j B f:Nat),C.ro≤j→R[j]?=some (B,f)→B<w1.heap.size→B∈ms:=by
  intro i w1 ms hi
  obtain ⟨p1,p2,p3⟩:=ok.past i w1 ms hi
  refine ⟨p1.trans2 ok'.ext fun B hB=>?_,p2,fun j B f ho e hlt=>?_⟩
  ·obtain ⟨i2,hi2,f,e⟩:=hm' B hB
   rcases Nat.lt_or_ge B w1.heap.size with hlt|hge
   ·exact .inl (p3 i2 B f (hwr i2 hi2) e hlt)
   ·exact .inr hge
  ·rcases two j with hj|⟨d,rfl⟩
   ·rw [hR1 j hj] at e
    exact p3 j B f ho e hlt
   ·rw [hR2] at e
    rcases where_ _ B f (by omega) e with ⟨i2,hi2,f',e2⟩|hge
    ·exact p3 i2 B f' (hwr i2 hi2) e2 hlt
    ·have:=p1.size
     omega
 have pnew:∀ (k:Nat) (w1:World) (ms:List Nat),hs[k]?=some [.past w1 ms]→Ext ms w1 w'∧(∀ B,B<w.heap.size→B<w1.heap.size→B ∉ ms→∃ (i:Nat) (W:World) (ms:List Nat),h[i]?=some [.past W ms]∧B<W.heap.size∧B ∉ ms) ∧
   ∀ (j B f:Nat),C.ro≤j→R[j]?=some (B,f)→B<w1.heap.size→B∈ms:=by
  intro k w1 ms hk
  obtain ⟨p1,p2,p3⟩:=ok'.past k w1 ms hk
  refine ⟨p1,fun B h1 h2 h3=>hsf B (p2 B h1 h2 h3),fun j B f ho e hlt=>?_⟩
  rcases two j with hj|⟨d,rfl⟩
  ·rw [hR1 j hj] at e
   apply Classical.byContradiction
   intro hn
   obtain ⟨i2,W,ms2,g1,g2,g3⟩:=hsf B (p2 B (ok.lt j B f ho e) hlt hn)
   exact g3 ((ok.past i2 W ms2 g1).2.2 j B f ho e g2)
  ·rw [hR2] at e
   exact p3 _ B f (show n≤q.length+d by omega) e hlt
 have rows:∀ (j:Nat) (c:List Seg),(Sx.back g (q.drop n) (hs.drop n) h)[j]?=some c→∃ B f,R[j]?=some (B,f):=by
  intro j c e
  have hj:j<R.length:=by
   have:j<(Sx.back g (q.drop n) (hs.drop n) h).length:=by
    rcases Nat.lt_or_ge j (Sx.back g (q.drop n) (hs.drop n) h).length with h|h
    ·exact h
    ·rw [List.getElem?_eq_none h] at e; cases e
   rw [b1] at this
   simp only [R,List.length_append,List.length_drop,hlen,hlen'] at this ⊢
   omega
  exact ⟨R[j].1,R[j].2,List.getElem?_eq_getElem hj⟩
 have which:∀ (i:Nat) (W:World) (ms:List Nat),(Sx.back g (q.drop n) (hs.drop n) h)[i]?=some [.past W ms]→(h[i]?=some [.past W ms])∨∃ k:Nat,hs[k]?=some [.past W ms]:=by
  intro i W ms hi
  obtain ⟨B,f,hr⟩:=rows i _ hi
  rcases cases_ i B f _ hi hr with ⟨_,_,h3,_⟩|⟨k,c',_,_,h3,h4,_⟩
  ·exact .inl h3
  ·exact .inr ⟨k,by rw [h3,mpL_past h4]⟩
 refine ⟨⟨hext,fun i x e=>?_,ok.rol,?_,fun j c B f hc hr=>?_,fun j B f ho hr=>?_,fun j B f ho hr=>?_,fun j B f ho hl hr=>?_,fun j c ho hl hc=>?_,fun i j B f f' c c' hij o1 o2 hi hj hri hrj=>?_,fun j m B f ho hc hr=>?_,fun i w1 ms hi=>?_⟩,fun i x e=>?_,hg,fun e=>?_,pnew,fun i W ms hn' hi=>?_,which⟩
 ·have e1:=ok.agree i x e
  have hi:i<r.length:=by
   rcases Nat.lt_or_ge i r.length with h|h
   ·exact h
   ·rw [List.getElem?_eq_none h] at e1; cases e1
  rw [hR1 i hi]; exact e1
 ·rw [b1]; simp [R,hlen]; omega
 ·rcases cases_ j B f c hc hr with ⟨h1,h2,h3,h4⟩|⟨k,c',hkn,hk,h3,rfl,h4⟩
  ·refine ((ok.chunks j c B f h3 h4).mono ?_).extm ok'.ext (fun hl=>old j B f c h2 h3 h4 hl)
   intro i x e
   have hi:i<r.length:=by
    rcases Nat.lt_or_ge i r.length with h|h
    ·exact h
    ·rw [List.getElem?_eq_none h] at e; cases e
   rw [hR1 i hi]; exact e
  ·intro d x e
   obtain ⟨v,e1,e2,e3⟩:=(ok'.chunks k c' B f h3 h4).mp hg d x e
   exact ⟨v,e1,e2,fun _=>e3 (le_ble hkn)⟩
 ·have hj:j<r.length∨∃ d,j=r.length+d:=by
   rcases Nat.lt_or_ge j r.length with h|h
   ·exact .inl h
   ·exact .inr ⟨j-r.length,by omega⟩
  rcases hj with hj|⟨d,rfl⟩
  ·rw [hR1 j hj] at hr; exact Nat.lt_of_lt_of_le (ok.lt j B f ho hr) ok'.ext.size
  ·rw [hR2] at hr; exact ok'.lt _ B f (show n≤q.length+d by omega) hr
 ·have hj:j<r.length∨∃ d,j=r.length+d:=by
   rcases Nat.lt_or_ge j r.length with h|h
   ·exact .inl h
   ·exact .inr ⟨j-r.length,by omega⟩
  rcases hj with hj|⟨d,rfl⟩
  ·rw [hR1 j hj] at hr; exact ok.own j B f ho hr
  ·rw [hR2] at hr
   rcases where_ _ B f (by omega) hr with ⟨i,hi,f',e⟩|h
   ·exact ok.own i B f' (hwr i hi) e
   ·exact .inr (Nat.le_trans ok.ext.size h)
 ·rw [hR1 j (by omega)] at hr
  exact ok.ros j B f ho hl hr
 ·have hjq:j ∉ q.drop n:=fun hc'=>by have:=hwr j hc'; omega
  rw [b3 j (by omega) hjq] at hc
  exact ok.dead j c ho hl hc
 ·rcases cases_ i B f c hi hri with ⟨h1,h2,h3,h4⟩|⟨k,d,hkn,hk,h3,rfl,h4⟩ <;> rcases cases_ j B f' c' hj hrj with ⟨g1,g2,g3,g4⟩|⟨l,d',hln,hl,g3,rfl,g4⟩
  ·exact ok.apart i j B f f' c c' hij o1 o2 h3 g3 h4 g4
  ·rcases old2 i B f c o1 h2 h3 h4 with h5|⟨h5,h6⟩
   ·exact .inl h5
   ·rcases where_ _ B f' hln g4 with ⟨i',hi',f'',e⟩|h
    ·exact absurd e (h5 i' hi' f'')
    ·omega
  ·rcases old2 j B f' c' o2 g2 g3 g4 with h5|⟨h5,h6⟩
   ·exact .inr h5
   ·rcases where_ _ B f hkn h4 with ⟨i',hi',f'',e⟩|h
    ·exact absurd e (h5 i' hi' f'')
    ·omega
  ·rcases ok'.apart k l B f f' d d' (fun e=>hij (by rw [← hk,← hl,e])) hkn hln h3 g3 h4 g4 with h|h
   ·left; rw [h]; rfl
   ·right; rw [h]; rfl
 ·rcases cases_ j B f _ hc hr with ⟨h1,h2,h3,h4⟩|⟨k,c',hkn,hk,h3,h4,h5⟩
  ·refine (ok.maps j m B f ho h3 h4).block (ok'.ext.block B (ok.lt j B f ho h4) fun hB=>?_)
   rcases old2 j B f _ ho h2 h3 h4 with h5|⟨h5,_⟩
   ·cases h5
   ·obtain ⟨i2,hi2,f2,e2⟩:=hm' B hB
    exact h5 i2 hi2 f2 e2
  ·exact ok'.maps k m B f hkn (by rw [h3,mpL_obj h4]) h5
 ·rcases which i w1 ms hi with h1|⟨k,h1⟩
  ·exact pold i w1 ms h1
  ·obtain ⟨p1,p2,p3⟩:=pnew k w1 ms h1
   refine ⟨p1,fun B h2 h3 h4=>?_,p3⟩
   obtain ⟨i2,W,ms2,g1,g2,g3⟩:=p2 B (Nat.lt_of_lt_of_le h2 ok.ext.size) h3 h4
   exact (ok.past i2 W ms2 g1).2.1 B h2 g2 g3
 ·have hi:i<r.length:=by
   rcases Nat.lt_or_ge i r.length with h|h
   ·exact h
   ·rw [List.getElem?_eq_none h] at e; cases e
  rw [hR1 i hi]; exact e
 ·refine ok'.ext.mono fun B hB=>?_
  obtain ⟨i,hi,_⟩:=hm' B hB
  rw [e] at hi
  cases hi
 ·have hil:i<h.length:=by
   rcases Nat.lt_or_ge i h.length with h1|h1
   ·exact h1
   ·rw [List.getElem?_eq_none h1] at hi; cases hi
  rw [b3 i hil hn']; exact hi
/-! Calls. -/
def apartB (h:List (List Seg)) (q:List Nat):List Nat→Bool
 | []=>true
 | i::l=>(match Nat.blt i h.length with
  | true=>!(memB i q) && (match getH h i with
   | []=>false
   | _=>true)
  | false=>true) && apartB h q l
def keepB (k:Keep) (q:List Nat) (h:List (List Seg)):Bool:=match k with
 | .free=>true
 | .all=>q.isEmpty
 | .only l=>apartB h q l
def allNe (h:List (List Seg)):List Nat→Bool
 | []=>true
 | i::q=>match stirs (getH h i) with
  | false=>false
  | true=>allNe h q
theorem allNe_spec {h:List (List Seg)}:∀ {q:List Nat},allNe h q=true→∀ i∈q,stirs (getH h i)=true
 | [],_,i,hi=>by cases hi
 | x::q,hh,i,hi=>by
  simp only [allNe] at hh
  split at hh
  ·cases hh
  ·rename_i hne
   cases hi with
   | head=>exact hne
   | tail _ hi=>exact allNe_spec hh i hi
theorem stirs_ne {l:List Seg} (h:stirs l=true):l≠[]:=fun e=>by subst e; cases h
def lenK {α:Type}:List α→Nat→(Nat→Prop)→Prop
 | [],n,k=>frcN n k
 | _::r,n,k=>lenK r (n+1) k
theorem lenK_eq {α:Type}:∀ (l:List α) (n:Nat) (k:Nat→Prop),lenK l n k=k (n+l.length)
 | [],n,k=>frcN_eq n k
 | _::r,n,k=>by rw [lenK,lenK_eq r]; simp only [List.length_cons]; congr 1; omega
def mapK (g:Nat→Nat):List (List Seg)→(List (List Seg)→Prop)→Prop
 | [],k=>k []
 | x::r,k=>mapK g r fun l=>k (mpL g x::l)
theorem mapK_eq (g:Nat→Nat):∀ (l:List (List Seg)) (k:List (List Seg)→Prop),mapK g l k=k (l.map (mpL g))
 | [],_=>rfl
 | x::r,k=>by rw [mapK,mapK_eq g r]; rfl
def appK (g:Nat→Nat) (ys:List (List Seg)):List (List Seg)→(List (List Seg)→Prop)→Prop
 | [],k=>mapK g ys k
 | x::r,k=>appK g ys r fun l=>k (x::l)
theorem appK_eq (g:Nat→Nat) (ys:List (List Seg)):∀ (l:List (List Seg)) (k:List (List Seg)→Prop),appK g ys l k=k (l++ys.map (mpL g))
 | [],k=>mapK_eq g ys k
 | x::r,k=>by rw [appK,appK_eq g ys r]; rfl
def backK (g:Nat→Nat):List Nat→List (List Seg)→List (List Seg)→(List (List Seg)→Prop)→Prop
 | [],hs,h,k=>appK g hs h k
 | i::q,c::hs,h,k=>setH h i (mpL g c) fun h=>backK g q hs h k
 | _::_,[],h,k=>k h
theorem backK_eq (g:Nat→Nat):∀ (q:List Nat) (hs h:List (List Seg)) (k:List (List Seg)→Prop),backK g q hs h k=k (back g q hs h)
 | [],hs,h,k=>appK_eq g hs h k
 | i::q,c::hs,h,k=>by rw [backK,setH_eq,backK_eq g q]; rfl
 | _::_,[],_,_=>rfl
section
variable {C : Cx}
theorem apartB_spec {h:List (List Seg)} {q:List Nat}:∀ {l:List Nat},apartB h q l=true→∀ i∈l,i<h.length→i ∉ q∧getH h i≠[]
 | [],_,i,hi,_=>by cases hi
 | x::l,hh,i,hi,hl=>by
  simp only [apartB,Bool.and_eq_true] at hh
  cases hi with
  | tail _ hi=>exact apartB_spec hh.2 i hi hl
  | head =>
   have h1:=hh.1
   split at h1
   ·simp only [Bool.and_eq_true,Bool.not_eq_true'] at h1
    refine ⟨fun hc=>?_,fun e=>?_⟩
    ·rw [memB_iff.2 hc] at h1
     exact absurd h1.1 (by simp)
    ·rw [e] at h1
     exact absurd h1.2 (by simp)
   ·rename_i hb
    have:Nat.blt x h.length=true:=Nat.ble_eq_true_of_le hl
    rw [this] at hb
    cases hb
theorem frm_back {k:Keep} {h hs:List (List Seg)} {q:List Nat} {n:Nat} {r r':Rho} {w w':World} {lv sf:Nat→Prop} {h':List (List Seg)} (hqr:∀ i∈q,i<r.length) (hl:∀ i∈q,i<h.length) (hst:∀ i∈q.drop n,stirs (getH h i)=true) (hwr:∀ i∈q.drop n,C.ro≤i) (h4:keepB k (q.drop n) h=true) (ok:HeapOk C h r w)
  (hok:HeapOk ⟨C.P,C.T,w,((rn q r).drop n).map (·.1),rn q r,n,lv,sf⟩ hs r' w') (hnq:n≤q.length) (o4:q.drop n=[]→Ext [] w w') (ok2:HeapOk C h' (r++r'.drop q.length) w')
  (o5:∀ (k:Nat) (w1:World) (ms:List Nat),hs[k]?=some [.past w1 ms]→Ext ms w1 w'∧(∀ B,B<w.heap.size→B<w1.heap.size→B ∉ ms→∃ (i:Nat) (W:World) (ms:List Nat),h[i]?=some [.past W ms]∧B<W.heap.size∧B ∉ ms) ∧
   ∀ (j B f:Nat),C.ro≤j→(r++r'.drop q.length)[j]?=some (B,f)→B<w1.heap.size→B∈ms)
  (hkp:k.binds=true→Keeps h h')
  (o7:∀ (i:Nat) (W:World) (ms:List Nat),h'[i]?=some [.past W ms]→(h[i]?=some [.past W ms])∨∃ k:Nat,hs[k]?=some [.past W ms]):Frm C k h r w h' (r++r'.drop q.length) w':=by
 have hne:∀ i∈q.drop n,getH h i≠[]:=fun i hi=>stirs_ne (hst i hi)
 have hqs:∀ i∈q.drop n,i∈q:=fun i hi=>List.mem_of_mem_drop hi
 have hsub:∀ B,B∈((rn q r).drop n).map (·.1)→∃ i,i∈q.drop n∧∃ f,r[i]?=some (B,f):=by
  intro B hB
  obtain ⟨k,f,hk,e⟩:=mem_drop.1 hB
  cases hqk:q[k]? with
  | none=>simp [rn,hqk] at e
  | some j =>
   rw [rn_get hqr hqk] at e
   exact ⟨j,List.mem_of_getElem? (i:=k-n) (by rw [List.getElem?_drop,show n+(k-n)=k by omega]; exact hqk),f,e⟩
 have hmem:∀ B,B∈((rn q r).drop n).map (·.1)→B∈(r.drop C.ro).map (·.1):=fun B hB=>by
  obtain ⟨i,hi,f,e⟩:=hsub B hB
  exact mem_drop.2 ⟨i,f,hwr i hi,e⟩
 refine ⟨hok.ext.mono fun i hi=>.inl (hmem i hi),fun i B f ho e=>?_,?_,hkp,fun i W ms hi B h1 h2 h3=>?_⟩
 ·rw [List.getElem?_append] at e
  split at e
  ·exact .inl (mem_drop.2 ⟨i,f,ho,e⟩)
  ·rw [List.getElem?_drop] at e
   rcases hok.own _ B f (show n≤q.length+(i-r.length) by omega) e with h|h
   ·exact .inl (hmem B h)
   ·exact .inr h
 ·cases k with
  | free=>trivial
  | all=>exact o4 (by simpa [keepB] using h4)
  | only l =>
   refine ⟨?_,fun i hi ho B f hr hB=>hok.ext.block B hB fun hc=>?_,fun i W ms hi=>let ⟨_,_,e2,hl⟩:=hkp rfl i W ms hi; hl.ext (ok2.past i _ _ e2).1⟩
   ·exact ok.ext.trans2 hok.ext fun B hB=>by
     obtain ⟨i,hi,f,e⟩:=hsub B hB
     exact ok.own i B f (hwr i hi) e
   ·obtain ⟨j,hjq,f',e2⟩:=hsub B hc
    have hil:i<h.length:=by
     rw [← ok.len]
     rcases Nat.lt_or_ge i r.length with h|h
     ·exact h
     ·rw [List.getElem?_eq_none h] at hr; cases hr
    obtain ⟨a1,a2⟩:=apartB_spec h4 i hi hil
    have hij:i≠j:=fun e=>by subst e; exact a1 hjq
    have ch:∀ z,z<h.length→h[z]?=some (getH h z):=fun z hz=>by rw [getH_eq,List.getElem?_eq_getElem hz]; rfl
    rcases ok.apart i j B f f' _ _ hij ho (hwr j hjq) (ch i hil) (ch j (hl j (hqs j hjq))) hr e2 with h|h
    ·exact a2 h
    ·exact hne j hjq h
 ·rcases o7 i W ms hi with h5|⟨d,h5⟩
  ·exact ⟨i,W,ms,h5,h2,h3⟩
  ·exact (o5 d W ms h5).2.1 B h1 h2 h3
def allGe (n:Nat):List Nat→Bool
 | []=>true
 | x::r=>match Nat.ble n x with
  | true=>allGe n r
  | false=>false
theorem allGe_spec {n:Nat}:∀ {l:List Nat},allGe n l=true→∀ i∈l,n≤i
 | [],_,i,hi=>by cases hi
 | x::l,h,i,hi=>by
  simp only [allGe] at h
  split at h
  ·rename_i hb
   cases hi with
   | head=>exact ble_le hb
   | tail _ hi=>exact allGe_spec h i hi
  ·cases h
def disj (a:List Nat):List Nat→Bool
 | []=>true
 | x::r=>match memB x a with
  | true=>false
  | false=>disj a r
theorem disj_spec {a:List Nat}:∀ {l:List Nat},disj a l=true→∀ i∈l,i ∉ a
 | [],_,i,hi=>by cases hi
 | x::l,h,i,hi=>by
  simp only [disj] at h
  split at h
  ·cases h
  ·rename_i hb
   cases hi with
   | head=>exact fun hc=>by rw [memB_iff.2 hc] at hb; cases hb
   | tail _ hi=>exact disj_spec h i hi
def qOk (ro n:Nat) (qt:Keep) (q:List Nat) (h:List (List Seg)):Bool :=
 Nat.ble n q.length && nodup (q.drop n) && allLt q h.length && allNe h (q.drop n) && allGe ro (q.drop n) && disj (q.take n) (q.drop n) && keepB qt (q.drop n) h
theorem call_ok0 {qt:Keep} {h:List (List Seg)} {n:Nat} {h0:List (List Seg)} {q:List Nat} (hq:qOk C.ro n qt q h=true) (hE:entH q h q h0 True) {r:Rho} {w:World} (ok:HeapOk C h r w) :
  HeapOk (cx0 C.P C.T w (rn q r) n h0) h0 (rn q r) w∧∀ (i:Nat) (W:World) (ms:List Nat),h0[i]?=some [.past W ms]→∃ j,q[i]?=some j∧h[j]?=some [.past W ms]:=by
 simp only [qOk,Bool.and_eq_true] at hq
 obtain ⟨⟨⟨⟨⟨⟨h0',h1⟩,h2⟩,h3⟩,h5⟩,h6⟩,h4⟩:=hq
 have hnq:=ble_le h0'
 have hn:=nodup_spec h1
 have hl:=allLt_spec h2
 have hst:=allNe_spec h3
 have hne:∀ i∈q.drop n,getH h i≠[]:=fun i hi=>stirs_ne (hst i hi)
 have hwr:=allGe_spec h5
 have hdj:=disj_spec h6
 have hlen:=ok.len
 have hqs:∀ i∈q.drop n,i∈q:=fun i hi=>List.mem_of_mem_drop hi
 have hqr:∀ i∈q,i<r.length:=fun i hi=>by rw [hlen]; exact hl i hi
 obtain ⟨_,e7,e8⟩:=entH_spec hqr h hE
 have look:∀ (i B f:Nat),(rn q r)[i]?=some (B,f)→∃ j,q[i]?=some j∧r[j]?=some (B,f):=by
  intro i B f e
  cases hi:q[i]? with
  | none=>simp [rn,hi] at e
  | some j=>exact ⟨j,rfl,by rw [← rn_get hqr hi]; exact e⟩
 have hdrop:∀ (i j:Nat),n≤i→q[i]?=some j→j∈q.drop n:=fun i j hi e =>
  List.mem_of_getElem? (i:=i-n) (by rw [List.getElem?_drop,show n+(i-n)=i by omega]; exact e)
 have chunk:∀ j,j<h.length→h[j]?=some (getH h j):=fun j hj=>by rw [getH_eq,List.getElem?_eq_getElem hj]; rfl
 have cells:∀ (i B f:Nat) (ch:List Seg),h0[i]?=some ch→(rn q r)[i]?=some (B,f)→At (Nat.ble n i) (rn q r) w B f (flat ch):=by
  intro i B f ch hi hr j y e
  obtain ⟨j',hq',hr'⟩:=look i B f hr
  obtain ⟨_,h9⟩:=e8 i ch j' hi hq'
  obtain ⟨x,hx,hv⟩:=h9 j y e
  obtain ⟨v,e1,e2,e3⟩:=ok.chunk hr' j x hx
  exact ⟨v,e1,hv v e2,fun hb=>e3 (le_ble (hwr j' (hdrop i j' (ble_le hb) hq')))⟩
 have pastUp:∀ (i:Nat) (W:World) (ms:List Nat),h0[i]?=some [.past W ms]→∃ j,q[i]?=some j∧h[j]?=some [.past W ms]:=by
  intro i W ms hi
  have hil:i<q.length:=by
   rw [e7]
   rcases Nat.lt_or_ge i h0.length with h1|h1
   ·exact h1
   ·rw [List.getElem?_eq_none h1] at hi; cases hi
  have hqi:=List.getElem?_eq_getElem hil
  refine ⟨_,hqi,?_⟩
  have hk:=(e8 i _ _ hi hqi).1.2.2 W ms rfl
  rw [chunk _ (hl _ (List.getElem_mem _)),hk]
 refine ⟨?_,pastUp⟩
 ·refine ⟨Ext.refl _ _,RLe.refl _,by simpa [rn] using hnq,by simp [rn,e7],fun i ch B f hi hr=>cells i B f ch hi hr,fun i B f ho hr=>?_,fun i B f ho hr=>.inl (mem_drop.2 ⟨i,f,ho,hr⟩),fun i B f ho hlv hr=>?_,fun i ch ho hlv hi=>?_,fun i j B f f' ch ch' hij o1 o2 hi hj hri hrj=>?_,fun i m B f ho hi hr=>?_,fun i W ms hi=>?_⟩
  ·obtain ⟨j',hq',hr'⟩:=look i B f hr
   exact ok.lt j' B f (hwr j' (hdrop i j' ho hq')) hr'
  ·have hi0:i<h0.length:=by
    rw [← e7]
    obtain ⟨j',hq',_⟩:=look i B f hr
    rcases Nat.lt_or_ge i q.length with h|h
    ·exact h
    ·rw [List.getElem?_eq_none h] at hq'; cases hq'
   have hch:h0[i]?=some (getH h0 i):=by rw [getH_eq,List.getElem?_eq_getElem hi0]; rfl
   have hAt:=cells i B f _ hch hr
   refine ⟨fun hc=>?_,hAt.lt hlv⟩
   obtain ⟨j',hq',hr'⟩:=look i B f hr
   obtain ⟨i2,f2,hi2,e2⟩:=mem_drop.1 hc
   obtain ⟨j2,hq2,hr2⟩:=look i2 B f2 e2
   have hj2:=hdrop i2 j2 hi2 hq2
   have hjt:j'∈q.take n:=List.mem_of_getElem? (i:=i) (by rw [List.getElem?_take,if_pos ho]; exact hq')
   have hne2:j'≠j2:=fun e=>hdj j2 hj2 (e ▸ hjt)
   have hfl:=ok.sep hne2 (hwr j2 hj2) (chunk j' (hl j' (List.mem_of_getElem? hq'))) (chunk j2 (hl j2 (hqs j2 hj2))) hr' hr2 (hne j2 hj2)
   obtain ⟨_,h9⟩:=e8 i _ j' hch hq'
   cases e:flat (getH h0 i) with
   | nil=>exact hlv e
   | cons y l =>
    obtain ⟨x,hx,_⟩:=h9 0 y (by rw [e]; rfl)
    rw [hfl] at hx
    cases hx
  ·have:getH h0 i=ch:=by rw [getH_eq,hi]; rfl
   rw [← this]
   exact Classical.byContradiction hlv
  ·have o1:n≤i:=o1
   have o2:n≤j:=o2
   obtain ⟨i',hqi,hri'⟩:=look i B f hri
   obtain ⟨j',hqj,hrj'⟩:=look j B f' hrj
   have m1:=hdrop i i' o1 hqi
   have m2:=hdrop j j' o2 hqj
   have hne':i'≠j':=by
    intro e
    subst e
    have g1:(q.drop n)[i-n]?=some i':=by rw [List.getElem?_drop,show n+(i-n)=i by omega]; exact hqi
    have g2:(q.drop n)[j-n]?=some i':=by rw [List.getElem?_drop,show n+(j-n)=j by omega]; exact hqj
    have hi1:i-n<(q.drop n).length:=by
     rcases Nat.lt_or_ge (i-n) (q.drop n).length with h|h
     ·exact h
     ·rw [List.getElem?_eq_none h] at g1; cases g1
    have:=(List.getElem?_inj hi1 hn).1 (g1.trans g2.symm)
    omega
   have l1:=hl i' (hqs i' m1)
   have l2:=hl j' (hqs j' m2)
   rcases ok.apart i' j' B f f' _ _ hne' (hwr i' m1) (hwr j' m2) (chunk i' l1) (chunk j' l2) hri' hrj' with h|h
   ·exact .inl ((e8 i ch i' hi hqi).1.1 h)
   ·exact .inr ((e8 j ch' j' hj hqj).1.1 h)
  ·obtain ⟨j',hq',hr'⟩:=look i B f hr
   have m1:=hdrop i j' ho hq'
   refine ok.maps j' m B f (hwr j' m1) ?_ hr'
   have hk:=(e8 i _ _ hi hq').1.2.1 m rfl
   rw [← hk]
   exact chunk _ (hl _ (hqs j' m1))
  ·obtain ⟨j',hq',hj'⟩:=pastUp i W ms hi
   obtain ⟨p1,_,p3⟩:=ok.past j' W ms hj'
   refine ⟨p1,fun B _ h2 h3=>⟨i,W,ms,hi,h2,h3⟩,fun j B f ho hr hlt=>?_⟩
   obtain ⟨j2,hq2,hr2⟩:=look j B f hr
   exact p3 j2 B f (hwr j2 (hdrop j j2 ho hq2)) hr2 hlt
theorem call_fn {qt:Keep} {f:FuncId} {args args0:List SA} {t:List SV} {h:List (List Seg)} {k:SV→List (List Seg)→Prop} {n:Nat} {h0:List (List Seg)} {raw:World→Prop} {Res:SV→List (List Seg)→Prop}
  (hfn:FnR C.P C.T f n h0 args0 raw Res) (q:List Nat) (hq:qOk C.ro n qt q h=true)
  (hE:entH q h q h0 True) (hA:∀ r w vs,HeapOk C h r w→IsAs r args vs→IsAs (rn q r) args0 vs) (hraw:∀ r w,HeapOk C h r w→raw w)
  (hk:∀ x hs,Res x hs→lenK h 0 fun N=>backK (bk N q) (q.drop n) (hs.drop n) h fun h'=>k (x.mp (bk N q)) h'):CallVC C qt f #[] args #[] t h k:=by
 intro r a w vs ok ha
 obtain ⟨ok0,pastUp⟩:=call_ok0 hq hE ok.heap
 simp only [qOk,Bool.and_eq_true] at hq
 obtain ⟨⟨⟨⟨⟨⟨h0',h1⟩,h2⟩,h3⟩,h5⟩,h6⟩,h4⟩:=hq
 have hnq:=ble_le h0'
 have hn:=nodup_spec h1
 have hl:=allLt_spec h2
 have hst:=allNe_spec h3
 have hne:∀ i∈q.drop n,getH h i≠[]:=fun i hi=>stirs_ne (hst i hi)
 have hwr:=allGe_spec h5
 have hlen:=ok.heap.len
 have hqr:∀ i∈q,i<r.length:=fun i hi=>by rw [hlen]; exact hl i hi
 have hcall:=hfn w (rn q r) vs ok0 (hA r w vs ok.heap ha) (hraw r w ok.heap)
 have hargs:(#[]:Array Value)++vs.toArray++#[]=vs.toArray:=by simp
 rw [hargs]
 refine hcall.mono ?_
 rintro e w' ⟨v,x,hs,r',rfl,hx,hok,hres⟩
 obtain ⟨o1,o2,o3,o4,o5,o6,o7⟩:=ok.heap.back hnq hn hl hne hwr (fun B ⟨i,W,ms,h1,h2,h3⟩=>by
  obtain ⟨j',_,hj'⟩:=pastUp i W ms h1
  exact ⟨j',W,ms,hj',h2,h3⟩) hok
 have hk':=hk x hs hres
 rw [lenK_eq,Nat.zero_add,backK_eq] at hk'
 exact ⟨v,_,_,_,rfl,hx.mp o3,o2,o1,frm_back hqr hl hst hwr h4 ok.heap hok hnq o4 o1 o5 (fun _=>.of fun i W ms hi=>o6 i W ms (fun hc=>by
  have:=hst i hc
  rw [getH_eq,hi] at this
  cases this) hi) o7,hk'⟩
def eqAs (q:List Nat):List SA→List SA→Prop
 | [],[]=>True
 | x::r,y::r'=>eqA q x y (eqAs q r r')
 | _,_=>False
theorem eqAs_spec {q:List Nat} {r:Rho} (hq:∀ i∈q,i<r.length):∀ {l l':List SA} {vs:List Value},eqAs q l l'→IsAs r l vs→IsAs (rn q r) l' vs
 | [],[],vs,_,h=>⟨h.1,fun j x e=>by simp at e⟩
 | x::l,y::l',vs,h,hv=>by
  obtain ⟨h,h1⟩:=eqA_spec hq (show eqA q x y (eqAs q l l') from h)
  cases vs with
  | nil=>have:=hv.1; simp at this
  | cons v vs =>
   have ht:=eqAs_spec (vs:=vs) hq h ⟨by simpa using hv.1,fun j z e=>hv.2 (j+1) z e⟩
   refine ⟨by simpa using ht.1,fun j z e=>?_⟩
   cases j with
   | zero =>
    simp at e
    subst e
    obtain ⟨u,e1,e2⟩:=hv.2 0 x rfl
    exact ⟨u,e1,h1 u e2⟩
   | succ j=>exact ht.2 j z e
 | [],_::_,_,h,_=>h.elim
 | _::_,[],_,h,_=>h.elim
theorem call_same {qt:Keep} {f:FuncId} {args args0:List SA} {t:List SV} {h:List (List Seg)} {k:SV→List (List Seg)→Prop} {n:Nat} {h0:List (List Seg)} {raw:World→Prop} {Res:SV→List (List Seg)→Prop}
  (hfn:FnR C.P C.T f n h0 args0 raw Res) (q:List Nat) (hq:qOk C.ro n qt q h=true)
  (hA:eqAs q args args0) (hE:entH q h q h0 True) (hraw:∀ w,Ext C.m C.w0 w→raw w)
  (hk:∀ x hs,Res x hs→lenK h 0 fun N=>backK (bk N q) (q.drop n) (hs.drop n) h fun h'=>k (x.mp (bk N q)) h'):CallVC C qt f #[] args #[] t h k:=by
 refine call_fn hfn q hq hE (fun r w vs ok hv=>eqAs_spec (fun i hi=>?_) hA hv) (fun r w ok=>hraw w ok.ext) hk
 simp only [qOk,Bool.and_eq_true] at hq
 rw [ok.len]
 exact allLt_spec hq.1.1.1.1.2 i hi
end
end Sx
end
section
namespace Sx
def tds:List (Nat × TD):=[(1,⟨.fn,1,8,[.one (.nilFn)]⟩),
 (2,⟨.int .i64,1,8,[.one (.int .i64 0)]⟩),
 (3,⟨.int .i64,1,8,[.one (.int .i64 0)]⟩),
 (4,⟨.bool,1,1,[.one (.bool false)]⟩),
 (5,⟨.int .u8,1,1,[.one (.w8 0)]⟩),
 (6,⟨.int .u8,1,1,[.one (.w8 0)]⟩),
 (7,⟨.struct [(2,0),(3,1),(4,2),(6,3)],4,24,[.one (.int .i64 0),.one (.int .i64 0),.one (.bool false),.one (.w8 0)]⟩),
 (8,⟨.struct [(2,0),(3,1),(4,2),(6,3)],4,24,[.one (.int .i64 0),.one (.int .i64 0),.one (.bool false),.one (.w8 0)]⟩),
 (9,⟨.str,1,16,[.one (.str [])]⟩),
 (10,⟨.str,1,16,[.one (.str [])]⟩),
 (11,⟨.str,1,16,[.one (.str [])]⟩),
 (12,⟨.int .u64,1,8,[.one (.w64 0)]⟩),
 (13,⟨.struct [(9,0),(12,1)],2,24,[.one (.str []),.one (.w64 0)]⟩),
 (14,⟨.struct [(9,0),(12,1)],2,24,[.one (.str []),.one (.w64 0)]⟩),
 (15,⟨.ptr 165,1,8,[.one (.ptr none)]⟩),
 (16,⟨.ptr 168,1,8,[.one (.ptr none)]⟩),
 (17,⟨.ptr 177,1,8,[.one (.ptr none)]⟩),
 (18,⟨.struct [(17,0)],1,8,[.one (.ptr none)]⟩),
 (19,⟨.struct [(17,0)],1,8,[.one (.ptr none)]⟩),
 (20,⟨.ifc,1,16,[.one (.nilIfc)]⟩),
 (21,⟨.int .i32,1,4,[.one (.int .i32 0)]⟩),
 (22,⟨.int .u8,1,1,[.one (.w8 0)]⟩),
 (23,⟨.int .u64,1,8,[.one (.w64 0)]⟩),
 (24,⟨.slice 23,1,24,[.one (.slc none 0 0)]⟩),
 (25,⟨.slice 5,1,24,[.one (.slc none 0 0)]⟩),
 (26,⟨.struct [(22,0),(23,1),(24,2),(25,3)],4,64,[.one (.w8 0),.one (.w64 0),.one (.slc none 0 0),.one (.slc none 0 0)]⟩),
 (27,⟨.struct [(22,0),(23,1),(24,2),(25,3)],4,64,[.one (.w8 0),.one (.w64 0),.one (.slc none 0 0),.one (.slc none 0 0)]⟩),
 (28,⟨.fn,1,8,[.one (.nilFn)]⟩),
 (29,⟨.fn,1,8,[.one (.nilFn)]⟩),
 (30,⟨.slice 27,1,24,[.one (.slc none 0 0)]⟩),
 (31,⟨.fn,1,8,[.one (.nilFn)]⟩),
 (32,⟨.int .u8,1,1,[.one (.w8 0)]⟩),
 (33,⟨.slice 36,1,24,[.one (.slc none 0 0)]⟩),
 (34,⟨.slice 9,1,24,[.one (.slc none 0 0)]⟩),
 (35,⟨.struct [(32,0),(23,1),(9,2),(33,3),(34,4)],5,80,[.one (.w8 0),.one (.w64 0),.one (.str []),.one (.slc none 0 0),.one (.slc none 0 0)]⟩),
 (36,⟨.struct [(32,0),(23,1),(9,2),(33,3),(34,4)],5,80,[.one (.w8 0),.one (.w64 0),.one (.str []),.one (.slc none 0 0),.one (.slc none 0 0)]⟩),
 (37,⟨.int .i64,1,8,[.one (.int .i64 0)]⟩),
 (39,⟨.fn,1,8,[.one (.nilFn)]⟩),
 (40,⟨.fn,1,8,[.one (.nilFn)]⟩),
 (42,⟨.fn,1,8,[.one (.nilFn)]⟩),
 (43,⟨.fn,1,8,[.one (.nilFn)]⟩),
 (44,⟨.fn,1,8,[.one (.nilFn)]⟩),
 (45,⟨.struct [(9,0),(37,1)],2,24,[.one (.str []),.one (.int .i64 0)]⟩),
 (46,⟨.struct [(9,0),(37,1)],2,24,[.one (.str []),.one (.int .i64 0)]⟩),
 (47,⟨.slice 46,1,24,[.one (.slc none 0 0)]⟩),
 (49,⟨.fn,1,8,[.one (.nilFn)]⟩),
 (50,⟨.fn,1,8,[.one (.nilFn)]⟩),
 (51,⟨.fn,1,8,[.one (.nilFn)]⟩),
 (53,⟨.fn,1,8,[.one (.nilFn)]⟩),
 (54,⟨.fn,1,8,[.one (.nilFn)]⟩),
 (55,⟨.fn,1,8,[.one (.nilFn)]⟩),
 (56,⟨.fn,1,8,[.one (.nilFn)]⟩),
 (57,⟨.fn,1,8,[.one (.nilFn)]⟩),
 (58,⟨.fn,1,8,[.one (.nilFn)]⟩),
 (60,⟨.fn,1,8,[.one (.nilFn)]⟩),
 (61,⟨.fn,1,8,[.one (.nilFn)]⟩),
 (62,⟨.fn,1,8,[.one (.nilFn)]⟩),
 (63,⟨.fn,1,8,[.one (.nilFn)]⟩),
 (64,⟨.fn,1,8,[.one (.nilFn)]⟩),
 (65,⟨.int .u16,1,2,[.one (.w16 0)]⟩),
 (66,⟨.fn,1,8,[.one (.nilFn)]⟩),
 (67,⟨.fn,1,8,[.one (.nilFn)]⟩),
 (69,⟨.fn,1,8,[.one (.nilFn)]⟩),
 (70,⟨.struct [(9,0),(34,1),(4,2)],3,48,[.one (.str []),.one (.slc none 0 0),.one (.bool false)]⟩),
 (71,⟨.struct [(9,0),(34,1),(4,2)],3,48,[.one (.str []),.one (.slc none 0 0),.one (.bool false)]⟩),
 (73,⟨.fn,1,8,[.one (.nilFn)]⟩),
 (74,⟨.fn,1,8,[.one (.nilFn)]⟩),
 (75,⟨.ptr 36,1,8,[.one (.ptr none)]⟩),
 (76,⟨.fn,1,8,[.one (.nilFn)]⟩),
 (77,⟨.fn,1,8,[.one (.nilFn)]⟩),
 (78,⟨.fn,1,8,[.one (.nilFn)]⟩),
 (79,⟨.fn,1,8,[.one (.nilFn)]⟩),
 (81,⟨.fn,1,8,[.one (.nilFn)]⟩),
 (82,⟨.fn,1,8,[.one (.nilFn)]⟩),
 (84,⟨.fn,1,8,[.one (.nilFn)]⟩),
 (85,⟨.fn,1,8,[.one (.nilFn)]⟩),
 (86,⟨.ptr 27,1,8,[.one (.ptr none)]⟩),
 (87,⟨.fn,1,8,[.one (.nilFn)]⟩),
 (88,⟨.fn,1,8,[.one (.nilFn)]⟩),
 (89,⟨.ptr 91,1,8,[.one (.ptr none)]⟩),
 (90,⟨.struct [(9,0),(3,1)],2,24,[.one (.str []),.one (.int .i64 0)]⟩),
 (91,⟨.struct [(9,0),(3,1)],2,24,[.one (.str []),.one (.int .i64 0)]⟩),
 (92,⟨.fn,1,8,[.one (.nilFn)]⟩),
 (93,⟨.slice 121,1,24,[.one (.slc none 0 0)]⟩),
 (94,⟨.struct [(93,0)],1,24,[.one (.slc none 0 0)]⟩),
 (95,⟨.struct [(93,0)],1,24,[.one (.slc none 0 0)]⟩),
 (96,⟨.fn,1,8,[.one (.nilFn)]⟩),
 (97,⟨.fn,1,8,[.one (.nilFn)]⟩),
 (98,⟨.slice 120,1,24,[.one (.slc none 0 0)]⟩),
 (99,⟨.struct [(98,0)],1,24,[.one (.slc none 0 0)]⟩),
 (100,⟨.struct [(98,0)],1,24,[.one (.slc none 0 0)]⟩),
 (101,⟨.fn,1,8,[.one (.nilFn)]⟩),
 (102,⟨.fn,1,8,[.one (.nilFn)]⟩),
 (103,⟨.fn,1,8,[.one (.nilFn)]⟩),
 (104,⟨.fn,1,8,[.one (.nilFn)]⟩),
 (105,⟨.slice 34,1,24,[.one (.slc none 0 0)]⟩),
 (106,⟨.fn,1,8,[.one (.nilFn)]⟩),
 (107,⟨.fn,1,8,[.one (.nilFn)]⟩),
 (108,⟨.int .u64,1,8,[.one (.w64 0)]⟩),
 (110,⟨.fn,1,8,[.one (.nilFn)]⟩),
 (111,⟨.fn,1,8,[.one (.nilFn)]⟩),
 (113,⟨.fn,1,8,[.one (.nilFn)]⟩),
 (114,⟨.array 3 9,3,48,[.row 3 (fun _=>.str [])]⟩),
 (115,⟨.fn,1,8,[.one (.nilFn)]⟩),
 (116,⟨.fn,1,8,[.one (.nilFn)]⟩),
 (117,⟨.ptr 95,1,8,[.one (.ptr none)]⟩),
 (118,⟨.fn,1,8,[.one (.nilFn)]⟩),
 (119,⟨.struct [(75,0),(3,1),(3,2)],3,24,[.one (.ptr none),.one (.int .i64 0),.one (.int .i64 0)]⟩),
 (120,⟨.struct [(75,0),(3,1),(3,2)],3,24,[.one (.ptr none),.one (.int .i64 0),.one (.int .i64 0)]⟩),
 (121,⟨.array 2 120,6,48,[.row 6 (fun j=>nthC [.ptr none,.int .i64 0,.int .i64 0] (j % 3))]⟩),
 (122,⟨.fn,1,8,[.one (.nilFn)]⟩),
 (123,⟨.fn,1,8,[.one (.nilFn)]⟩),
 (124,⟨.fn,1,8,[.one (.nilFn)]⟩),
 (125,⟨.ptr 100,1,8,[.one (.ptr none)]⟩),
 (126,⟨.fn,1,8,[.one (.nilFn)]⟩),
 (127,⟨.fn,1,8,[.one (.nilFn)]⟩),
 (128,⟨.fn,1,8,[.one (.nilFn)]⟩),
 (130,⟨.fn,1,8,[.one (.nilFn)]⟩),
 (132,⟨.fn,1,8,[.one (.nilFn)]⟩),
 (133,⟨.fn,1,8,[.one (.nilFn)]⟩),
 (135,⟨.fn,1,8,[.one (.nilFn)]⟩),
 (136,⟨.map .strs,1,8,[.one (.nilMap)]⟩),
 (137,⟨.fn,1,8,[.one (.nilFn)]⟩),
 (138,⟨.fn,1,8,[.one (.nilFn)]⟩),
 (139,⟨.fn,1,8,[.one (.nilFn)]⟩),
 (140,⟨.array 256 5,256,256,[.row 256 (fun _=>.w8 0)]⟩),
 (141,⟨.struct [(5,0),(5,1)],2,2,[.one (.w8 0),.one (.w8 0)]⟩),
 (142,⟨.struct [(5,0),(5,1)],2,2,[.one (.w8 0),.one (.w8 0)]⟩),
 (143,⟨.array 16 142,32,32,[.row 32 (fun _=>.w8 0)]⟩),
 (144,⟨.struct [],0,0,[]⟩),
 (146,⟨.fn,1,8,[.one (.nilFn)]⟩),
 (147,⟨.int .u32,1,4,[.one (.w32 0)]⟩),
 (148,⟨.fn,1,8,[.one (.nilFn)]⟩),
 (149,⟨.array 24 5,24,24,[.row 24 (fun _=>.w8 0)]⟩),
 (150,⟨.fn,1,8,[.one (.nilFn)]⟩),
 (151,⟨.fn,1,8,[.one (.nilFn)]⟩),
 (153,⟨.fn,1,8,[.one (.nilFn)]⟩),
 (154,⟨.fn,1,8,[.one (.nilFn)]⟩),
 (155,⟨.fn,1,8,[.one (.nilFn)]⟩),
 (156,⟨.array 20 23,20,160,[.row 20 (fun _=>.w64 0)]⟩),
 (157,⟨.array 65 5,65,65,[.row 65 (fun _=>.w8 0)]⟩),
 (158,⟨.fn,1,8,[.one (.nilFn)]⟩),
 (159,⟨.fn,1,8,[.one (.nilFn)]⟩),
 (160,⟨.fn,1,8,[.one (.nilFn)]⟩),
 (161,⟨.array 32 5,32,32,[.row 32 (fun _=>.w8 0)]⟩),
 (162,⟨.array 64 5,64,64,[.row 64 (fun _=>.w8 0)]⟩),
 (163,⟨.fn,1,8,[.one (.nilFn)]⟩),
 (164,⟨.struct [(17,0),(17,1),(17,2),(9,3)],4,40,[.one (.ptr none),.one (.ptr none),.one (.ptr none),.one (.str [])]⟩),
 (165,⟨.struct [(17,0),(17,1),(17,2),(9,3)],4,40,[.one (.ptr none),.one (.ptr none),.one (.ptr none),.one (.str [])]⟩),
 (166,⟨.array 0 16,0,0,[.row 0 (fun _=>.ptr none)]⟩),
 (167,⟨.struct [(166,0)],0,0,[.row 0 (fun _=>.ptr none)]⟩),
 (168,⟨.struct [(166,0)],0,0,[.row 0 (fun _=>.ptr none)]⟩),
 (169,⟨.fn,1,8,[.one (.nilFn)]⟩),
 (170,⟨.int .u8,1,1,[.one (.w8 0)]⟩),
 (171,⟨.int .u8,1,1,[.one (.w8 0)]⟩),
 (172,⟨.fn,1,8,[.one (.nilFn)]⟩),
 (173,⟨.ptr 5,1,8,[.one (.ptr none)]⟩),
 (174,⟨.int .i32,1,4,[.one (.int .i32 0)]⟩),
 (175,⟨.int .i32,1,4,[.one (.int .i32 0)]⟩),
 (176,⟨.struct [(12,0),(12,1),(147,2),(170,3),(5,4),(5,5),(171,6),(172,7),(173,8),(174,9),(175,10)],11,48,[.one (.w64 0),.one (.w64 0),.one (.w32 0),.one (.w8 0),.one (.w8 0),.one (.w8 0),.one (.w8 0),.one (.nilFn),.one (.ptr none),.one (.int .i32 0),.one (.int .i32 0)]⟩),
 (177,⟨.struct [(12,0),(12,1),(147,2),(170,3),(5,4),(5,5),(171,6),(172,7),(173,8),(174,9),(175,10)],11,48,[.one (.w64 0),.one (.w64 0),.one (.w32 0),.one (.w8 0),.one (.w8 0),.one (.w8 0),.one (.w8 0),.one (.nilFn),.one (.ptr none),.one (.int .i32 0),.one (.int .i32 0)]⟩)]
theorem td_1:TdOk Tryd.prog 1 ⟨.fn,1,8,[.one (.nilFn)]⟩:=⟨by kernel_rfl,show _=_ by kernel_rfl,by kernel_rfl,by kernel_rfl,by kernel_rfl⟩
theorem td_2:TdOk Tryd.prog 2 ⟨.int .i64,1,8,[.one (.int .i64 0)]⟩:=⟨by kernel_rfl,show _=_ by kernel_rfl,by kernel_rfl,by kernel_rfl,by kernel_rfl⟩
theorem td_3:TdOk Tryd.prog 3 ⟨.int .i64,1,8,[.one (.int .i64 0)]⟩:=⟨by kernel_rfl,show _=_ by kernel_rfl,by kernel_rfl,by kernel_rfl,by kernel_rfl⟩
theorem td_4:TdOk Tryd.prog 4 ⟨.bool,1,1,[.one (.bool false)]⟩:=⟨by kernel_rfl,show _=_ by kernel_rfl,by kernel_rfl,by kernel_rfl,by kernel_rfl⟩
theorem td_5:TdOk Tryd.prog 5 ⟨.int .u8,1,1,[.one (.w8 0)]⟩:=⟨by kernel_rfl,show _=_ by kernel_rfl,by kernel_rfl,by kernel_rfl,by kernel_rfl⟩
theorem td_6:TdOk Tryd.prog 6 ⟨.int .u8,1,1,[.one (.w8 0)]⟩:=⟨by kernel_rfl,show _=_ by kernel_rfl,by kernel_rfl,by kernel_rfl,by kernel_rfl⟩
theorem td_7:TdOk Tryd.prog 7 ⟨.struct [(2,0),(3,1),(4,2),(6,3)],4,24,[.one (.int .i64 0),.one (.int .i64 0),.one (.bool false),.one (.w8 0)]⟩:=⟨by kernel_rfl,show _=_ by kernel_rfl,by kernel_rfl,by kernel_rfl,by kernel_rfl⟩
theorem td_8:TdOk Tryd.prog 8 ⟨.struct [(2,0),(3,1),(4,2),(6,3)],4,24,[.one (.int .i64 0),.one (.int .i64 0),.one (.bool false),.one (.w8 0)]⟩:=⟨by kernel_rfl,show _=_ by kernel_rfl,by kernel_rfl,by kernel_rfl,by kernel_rfl⟩
theorem td_9:TdOk Tryd.prog 9 ⟨.str,1,16,[.one (.str [])]⟩:=⟨by kernel_rfl,show _=_ by kernel_rfl,by kernel_rfl,by kernel_rfl,by kernel_rfl⟩
theorem td_10:TdOk Tryd.prog 10 ⟨.str,1,16,[.one (.str [])]⟩:=⟨by kernel_rfl,show _=_ by kernel_rfl,by kernel_rfl,by kernel_rfl,by kernel_rfl⟩
theorem td_11:TdOk Tryd.prog 11 ⟨.str,1,16,[.one (.str [])]⟩:=⟨by kernel_rfl,show _=_ by kernel_rfl,by kernel_rfl,by kernel_rfl,by kernel_rfl⟩
theorem td_12:TdOk Tryd.prog 12 ⟨.int .u64,1,8,[.one (.w64 0)]⟩:=⟨by kernel_rfl,show _=_ by kernel_rfl,by kernel_rfl,by kernel_rfl,by kernel_rfl⟩
theorem td_13:TdOk Tryd.prog 13 ⟨.struct [(9,0),(12,1)],2,24,[.one (.str []),.one (.w64 0)]⟩:=⟨by kernel_rfl,show _=_ by kernel_rfl,by kernel_rfl,by kernel_rfl,by kernel_rfl⟩
theorem td_14:TdOk Tryd.prog 14 ⟨.struct [(9,0),(12,1)],2,24,[.one (.str []),.one (.w64 0)]⟩:=⟨by kernel_rfl,show _=_ by kernel_rfl,by kernel_rfl,by kernel_rfl,by kernel_rfl⟩
theorem td_15:TdOk Tryd.prog 15 ⟨.ptr 165,1,8,[.one (.ptr none)]⟩:=⟨by kernel_rfl,show _=_ by kernel_rfl,by kernel_rfl,by kernel_rfl,by kernel_rfl⟩
theorem td_16:TdOk Tryd.prog 16 ⟨.ptr 168,1,8,[.one (.ptr none)]⟩:=⟨by kernel_rfl,show _=_ by kernel_rfl,by kernel_rfl,by kernel_rfl,by kernel_rfl⟩
theorem td_17:TdOk Tryd.prog 17 ⟨.ptr 177,1,8,[.one (.ptr none)]⟩:=⟨by kernel_rfl,show _=_ by kernel_rfl,by kernel_rfl,by kernel_rfl,by kernel_rfl⟩
theorem td_18:TdOk Tryd.prog 18 ⟨.struct [(17,0)],1,8,[.one (.ptr none)]⟩:=⟨by kernel_rfl,show _=_ by kernel_rfl,by kernel_rfl,by kernel_rfl,by kernel_rfl⟩
theorem td_19:TdOk Tryd.prog 19 ⟨.struct [(17,0)],1,8,[.one (.ptr none)]⟩:=⟨by kernel_rfl,show _=_ by kernel_rfl,by kernel_rfl,by kernel_rfl,by kernel_rfl⟩
theorem td_20:TdOk Tryd.prog 20 ⟨.ifc,1,16,[.one (.nilIfc)]⟩:=⟨by kernel_rfl,show _=_ by kernel_rfl,by kernel_rfl,by kernel_rfl,by kernel_rfl⟩
theorem td_21:TdOk Tryd.prog 21 ⟨.int .i32,1,4,[.one (.int .i32 0)]⟩:=⟨by kernel_rfl,show _=_ by kernel_rfl,by kernel_rfl,by kernel_rfl,by kernel_rfl⟩
theorem td_22:TdOk Tryd.prog 22 ⟨.int .u8,1,1,[.one (.w8 0)]⟩:=⟨by kernel_rfl,show _=_ by kernel_rfl,by kernel_rfl,by kernel_rfl,by kernel_rfl⟩
theorem td_23:TdOk Tryd.prog 23 ⟨.int .u64,1,8,[.one (.w64 0)]⟩:=⟨by kernel_rfl,show _=_ by kernel_rfl,by kernel_rfl,by kernel_rfl,by kernel_rfl⟩
theorem td_24:TdOk Tryd.prog 24 ⟨.slice 23,1,24,[.one (.slc none 0 0)]⟩:=⟨by kernel_rfl,show _=_ by kernel_rfl,by kernel_rfl,by kernel_rfl,by kernel_rfl⟩
theorem td_25:TdOk Tryd.prog 25 ⟨.slice 5,1,24,[.one (.slc none 0 0)]⟩:=⟨by kernel_rfl,show _=_ by kernel_rfl,by kernel_rfl,by kernel_rfl,by kernel_rfl⟩
theorem td_26:TdOk Tryd.prog 26 ⟨.struct [(22,0),(23,1),(24,2),(25,3)],4,64,[.one (.w8 0),.one (.w64 0),.one (.slc none 0 0),.one (.slc none 0 0)]⟩:=⟨by kernel_rfl,show _=_ by kernel_rfl,by kernel_rfl,by kernel_rfl,by kernel_rfl⟩
theorem td_27:TdOk Tryd.prog 27 ⟨.struct [(22,0),(23,1),(24,2),(25,3)],4,64,[.one (.w8 0),.one (.w64 0),.one (.slc none 0 0),.one (.slc none 0 0)]⟩:=⟨by kernel_rfl,show _=_ by kernel_rfl,by kernel_rfl,by kernel_rfl,by kernel_rfl⟩
theorem td_28:TdOk Tryd.prog 28 ⟨.fn,1,8,[.one (.nilFn)]⟩:=⟨by kernel_rfl,show _=_ by kernel_rfl,by kernel_rfl,by kernel_rfl,by kernel_rfl⟩
theorem td_29:TdOk Tryd.prog 29 ⟨.fn,1,8,[.one (.nilFn)]⟩:=⟨by kernel_rfl,show _=_ by kernel_rfl,by kernel_rfl,by kernel_rfl,by kernel_rfl⟩
theorem td_30:TdOk Tryd.prog 30 ⟨.slice 27,1,24,[.one (.slc none 0 0)]⟩:=⟨by kernel_rfl,show _=_ by kernel_rfl,by kernel_rfl,by kernel_rfl,by kernel_rfl⟩
theorem td_31:TdOk Tryd.prog 31 ⟨.fn,1,8,[.one (.nilFn)]⟩:=⟨by kernel_rfl,show _=_ by kernel_rfl,by kernel_rfl,by kernel_rfl,by kernel_rfl⟩
theorem td_32:TdOk Tryd.prog 32 ⟨.int .u8,1,1,[.one (.w8 0)]⟩:=⟨by kernel_rfl,show _=_ by kernel_rfl,by kernel_rfl,by kernel_rfl,by kernel_rfl⟩
theorem td_33:TdOk Tryd.prog 33 ⟨.slice 36,1,24,[.one (.slc none 0 0)]⟩:=⟨by kernel_rfl,show _=_ by kernel_rfl,by kernel_rfl,by kernel_rfl,by kernel_rfl⟩
theorem td_34:TdOk Tryd.prog 34 ⟨.slice 9,1,24,[.one (.slc none 0 0)]⟩:=⟨by kernel_rfl,show _=_ by kernel_rfl,by kernel_rfl,by kernel_rfl,by kernel_rfl⟩
theorem td_35:TdOk Tryd.prog 35 ⟨.struct [(32,0),(23,1),(9,2),(33,3),(34,4)],5,80,[.one (.w8 0),.one (.w64 0),.one (.str []),.one (.slc none 0 0),.one (.slc none 0 0)]⟩:=⟨by kernel_rfl,show _=_ by kernel_rfl,by kernel_rfl,by kernel_rfl,by kernel_rfl⟩
theorem td_36:TdOk Tryd.prog 36 ⟨.struct [(32,0),(23,1),(9,2),(33,3),(34,4)],5,80,[.one (.w8 0),.one (.w64 0),.one (.str []),.one (.slc none 0 0),.one (.slc none 0 0)]⟩:=⟨by kernel_rfl,show _=_ by kernel_rfl,by kernel_rfl,by kernel_rfl,by kernel_rfl⟩
theorem td_37:TdOk Tryd.prog 37 ⟨.int .i64,1,8,[.one (.int .i64 0)]⟩:=⟨by kernel_rfl,show _=_ by kernel_rfl,by kernel_rfl,by kernel_rfl,by kernel_rfl⟩
theorem td_39:TdOk Tryd.prog 39 ⟨.fn,1,8,[.one (.nilFn)]⟩:=⟨by kernel_rfl,show _=_ by kernel_rfl,by kernel_rfl,by kernel_rfl,by kernel_rfl⟩
theorem td_40:TdOk Tryd.prog 40 ⟨.fn,1,8,[.one (.nilFn)]⟩:=⟨by kernel_rfl,show _=_ by kernel_rfl,by kernel_rfl,by kernel_rfl,by kernel_rfl⟩
theorem td_42:TdOk Tryd.prog 42 ⟨.fn,1,8,[.one (.nilFn)]⟩:=⟨by kernel_rfl,show _=_ by kernel_rfl,by kernel_rfl,by kernel_rfl,by kernel_rfl⟩
theorem td_43:TdOk Tryd.prog 43 ⟨.fn,1,8,[.one (.nilFn)]⟩:=⟨by kernel_rfl,show _=_ by kernel_rfl,by kernel_rfl,by kernel_rfl,by kernel_rfl⟩
theorem td_44:TdOk Tryd.prog 44 ⟨.fn,1,8,[.one (.nilFn)]⟩:=⟨by kernel_rfl,show _=_ by kernel_rfl,by kernel_rfl,by kernel_rfl,by kernel_rfl⟩
theorem td_45:TdOk Tryd.prog 45 ⟨.struct [(9,0),(37,1)],2,24,[.one (.str []),.one (.int .i64 0)]⟩:=⟨by kernel_rfl,show _=_ by kernel_rfl,by kernel_rfl,by kernel_rfl,by kernel_rfl⟩
theorem td_46:TdOk Tryd.prog 46 ⟨.struct [(9,0),(37,1)],2,24,[.one (.str []),.one (.int .i64 0)]⟩:=⟨by kernel_rfl,show _=_ by kernel_rfl,by kernel_rfl,by kernel_rfl,by kernel_rfl⟩
theorem td_47:TdOk Tryd.prog 47 ⟨.slice 46,1,24,[.one (.slc none 0 0)]⟩:=⟨by kernel_rfl,show _=_ by kernel_rfl,by kernel_rfl,by kernel_rfl,by kernel_rfl⟩
theorem td_49:TdOk Tryd.prog 49 ⟨.fn,1,8,[.one (.nilFn)]⟩:=⟨by kernel_rfl,show _=_ by kernel_rfl,by kernel_rfl,by kernel_rfl,by kernel_rfl⟩
theorem td_50:TdOk Tryd.prog 50 ⟨.fn,1,8,[.one (.nilFn)]⟩:=⟨by kernel_rfl,show _=_ by kernel_rfl,by kernel_rfl,by kernel_rfl,by kernel_rfl⟩
theorem td_51:TdOk Tryd.prog 51 ⟨.fn,1,8,[.one (.nilFn)]⟩:=⟨by kernel_rfl,show _=_ by kernel_rfl,by kernel_rfl,by kernel_rfl,by kernel_rfl⟩
theorem td_53:TdOk Tryd.prog 53 ⟨.fn,1,8,[.one (.nilFn)]⟩:=⟨by kernel_rfl,show _=_ by kernel_rfl,by kernel_rfl,by kernel_rfl,by kernel_rfl⟩
theorem td_54:TdOk Tryd.prog 54 ⟨.fn,1,8,[.one (.nilFn)]⟩:=⟨by kernel_rfl,show _=_ by kernel_rfl,by kernel_rfl,by kernel_rfl,by kernel_rfl⟩
theorem td_55:TdOk Tryd.prog 55 ⟨.fn,1,8,[.one (.nilFn)]⟩:=⟨by kernel_rfl,show _=_ by kernel_rfl,by kernel_rfl,by kernel_rfl,by kernel_rfl⟩
theorem td_56:TdOk Tryd.prog 56 ⟨.fn,1,8,[.one (.nilFn)]⟩:=⟨by kernel_rfl,show _=_ by kernel_rfl,by kernel_rfl,by kernel_rfl,by kernel_rfl⟩
theorem td_57:TdOk Tryd.prog 57 ⟨.fn,1,8,[.one (.nilFn)]⟩:=⟨by kernel_rfl,show _=_ by kernel_rfl,by kernel_rfl,by kernel_rfl,by kernel_rfl⟩
theorem td_58:TdOk Tryd.prog 58 ⟨.fn,1,8,[.one (.nilFn)]⟩:=⟨by kernel_rfl,show _=_ by kernel_rfl,by kernel_rfl,by kernel_rfl,by kernel_rfl⟩
theorem td_60:TdOk Tryd.prog 60 ⟨.fn,1,8,[.one (.nilFn)]⟩:=⟨by kernel_rfl,show _=_ by kernel_rfl,by kernel_rfl,by kernel_rfl,by kernel_rfl⟩
theorem td_61:TdOk Tryd.prog 61 ⟨.fn,1,8,[.one (.nilFn)]⟩:=⟨by kernel_rfl,show _=_ by kernel_rfl,by kernel_rfl,by kernel_rfl,by kernel_rfl⟩
theorem td_62:TdOk Tryd.prog 62 ⟨.fn,1,8,[.one (.nilFn)]⟩:=⟨by kernel_rfl,show _=_ by kernel_rfl,by kernel_rfl,by kernel_rfl,by kernel_rfl⟩
theorem td_63:TdOk Tryd.prog 63 ⟨.fn,1,8,[.one (.nilFn)]⟩:=⟨by kernel_rfl,show _=_ by kernel_rfl,by kernel_rfl,by kernel_rfl,by kernel_rfl⟩
theorem td_64:TdOk Tryd.prog 64 ⟨.fn,1,8,[.one (.nilFn)]⟩:=⟨by kernel_rfl,show _=_ by kernel_rfl,by kernel_rfl,by kernel_rfl,by kernel_rfl⟩
theorem td_65:TdOk Tryd.prog 65 ⟨.int .u16,1,2,[.one (.w16 0)]⟩:=⟨by kernel_rfl,show _=_ by kernel_rfl,by kernel_rfl,by kernel_rfl,by kernel_rfl⟩
theorem td_66:TdOk Tryd.prog 66 ⟨.fn,1,8,[.one (.nilFn)]⟩:=⟨by kernel_rfl,show _=_ by kernel_rfl,by kernel_rfl,by kernel_rfl,by kernel_rfl⟩
theorem td_67:TdOk Tryd.prog 67 ⟨.fn,1,8,[.one (.nilFn)]⟩:=⟨by kernel_rfl,show _=_ by kernel_rfl,by kernel_rfl,by kernel_rfl,by kernel_rfl⟩
theorem td_69:TdOk Tryd.prog 69 ⟨.fn,1,8,[.one (.nilFn)]⟩:=⟨by kernel_rfl,show _=_ by kernel_rfl,by kernel_rfl,by kernel_rfl,by kernel_rfl⟩
theorem td_70:TdOk Tryd.prog 70 ⟨.struct [(9,0),(34,1),(4,2)],3,48,[.one (.str []),.one (.slc none 0 0),.one (.bool false)]⟩:=⟨by kernel_rfl,show _=_ by kernel_rfl,by kernel_rfl,by kernel_rfl,by kernel_rfl⟩
theorem td_71:TdOk Tryd.prog 71 ⟨.struct [(9,0),(34,1),(4,2)],3,48,[.one (.str []),.one (.slc none 0 0),.one (.bool false)]⟩:=⟨by kernel_rfl,show _=_ by kernel_rfl,by kernel_rfl,by kernel_rfl,by kernel_rfl⟩
theorem td_73:TdOk Tryd.prog 73 ⟨.fn,1,8,[.one (.nilFn)]⟩:=⟨by kernel_rfl,show _=_ by kernel_rfl,by kernel_rfl,by kernel_rfl,by kernel_rfl⟩
theorem td_74:TdOk Tryd.prog 74 ⟨.fn,1,8,[.one (.nilFn)]⟩:=⟨by kernel_rfl,show _=_ by kernel_rfl,by kernel_rfl,by kernel_rfl,by kernel_rfl⟩
theorem td_75:TdOk Tryd.prog 75 ⟨.ptr 36,1,8,[.one (.ptr none)]⟩:=⟨by kernel_rfl,show _=_ by kernel_rfl,by kernel_rfl,by kernel_rfl,by kernel_rfl⟩
theorem td_76:TdOk Tryd.prog 76 ⟨.fn,1,8,[.one (.nilFn)]⟩:=⟨by kernel_rfl,show _=_ by kernel_rfl,by kernel_rfl,by kernel_rfl,by kernel_rfl⟩
theorem td_77:TdOk Tryd.prog 77 ⟨.fn,1,8,[.one (.nilFn)]⟩:=⟨by kernel_rfl,show _=_ by kernel_rfl,by kernel_rfl,by kernel_rfl,by kernel_rfl⟩
theorem td_78:TdOk Tryd.prog 78 ⟨.fn,1,8,[.one (.nilFn)]⟩:=⟨by kernel_rfl,show _=_ by kernel_rfl,by kernel_rfl,by kernel_rfl,by kernel_rfl⟩
theorem td_79:TdOk Tryd.prog 79 ⟨.fn,1,8,[.one (.nilFn)]⟩:=⟨by kernel_rfl,show _=_ by kernel_rfl,by kernel_rfl,by kernel_rfl,by kernel_rfl⟩
theorem td_81:TdOk Tryd.prog 81 ⟨.fn,1,8,[.one (.nilFn)]⟩:=⟨by kernel_rfl,show _=_ by kernel_rfl,by kernel_rfl,by kernel_rfl,by kernel_rfl⟩
theorem td_82:TdOk Tryd.prog 82 ⟨.fn,1,8,[.one (.nilFn)]⟩:=⟨by kernel_rfl,show _=_ by kernel_rfl,by kernel_rfl,by kernel_rfl,by kernel_rfl⟩
theorem td_84:TdOk Tryd.prog 84 ⟨.fn,1,8,[.one (.nilFn)]⟩:=⟨by kernel_rfl,show _=_ by kernel_rfl,by kernel_rfl,by kernel_rfl,by kernel_rfl⟩
theorem td_85:TdOk Tryd.prog 85 ⟨.fn,1,8,[.one (.nilFn)]⟩:=⟨by kernel_rfl,show _=_ by kernel_rfl,by kernel_rfl,by kernel_rfl,by kernel_rfl⟩
theorem td_86:TdOk Tryd.prog 86 ⟨.ptr 27,1,8,[.one (.ptr none)]⟩:=⟨by kernel_rfl,show _=_ by kernel_rfl,by kernel_rfl,by kernel_rfl,by kernel_rfl⟩
theorem td_87:TdOk Tryd.prog 87 ⟨.fn,1,8,[.one (.nilFn)]⟩:=⟨by kernel_rfl,show _=_ by kernel_rfl,by kernel_rfl,by kernel_rfl,by kernel_rfl⟩
theorem td_88:TdOk Tryd.prog 88 ⟨.fn,1,8,[.one (.nilFn)]⟩:=⟨by kernel_rfl,show _=_ by kernel_rfl,by kernel_rfl,by kernel_rfl,by kernel_rfl⟩
theorem td_89:TdOk Tryd.prog 89 ⟨.ptr 91,1,8,[.one (.ptr none)]⟩:=⟨by kernel_rfl,show _=_ by kernel_rfl,by kernel_rfl,by kernel_rfl,by kernel_rfl⟩
theorem td_90:TdOk Tryd.prog 90 ⟨.struct [(9,0),(3,1)],2,24,[.one (.str []),.one (.int .i64 0)]⟩:=⟨by kernel_rfl,show _=_ by kernel_rfl,by kernel_rfl,by kernel_rfl,by kernel_rfl⟩
theorem td_91:TdOk Tryd.prog 91 ⟨.struct [(9,0),(3,1)],2,24,[.one (.str []),.one (.int .i64 0)]⟩:=⟨by kernel_rfl,show _=_ by kernel_rfl,by kernel_rfl,by kernel_rfl,by kernel_rfl⟩
theorem td_92:TdOk Tryd.prog 92 ⟨.fn,1,8,[.one (.nilFn)]⟩:=⟨by kernel_rfl,show _=_ by kernel_rfl,by kernel_rfl,by kernel_rfl,by kernel_rfl⟩
theorem td_93:TdOk Tryd.prog 93 ⟨.slice 121,1,24,[.one (.slc none 0 0)]⟩:=⟨by kernel_rfl,show _=_ by kernel_rfl,by kernel_rfl,by kernel_rfl,by kernel_rfl⟩
theorem td_94:TdOk Tryd.prog 94 ⟨.struct [(93,0)],1,24,[.one (.slc none 0 0)]⟩:=⟨by kernel_rfl,show _=_ by kernel_rfl,by kernel_rfl,by kernel_rfl,by kernel_rfl⟩
theorem td_95:TdOk Tryd.prog 95 ⟨.struct [(93,0)],1,24,[.one (.slc none 0 0)]⟩:=⟨by kernel_rfl,show _=_ by kernel_rfl,by kernel_rfl,by kernel_rfl,by kernel_rfl⟩
theorem td_96:TdOk Tryd.prog 96 ⟨.fn,1,8,[.one (.nilFn)]⟩:=⟨by kernel_rfl,show _=_ by kernel_rfl,by kernel_rfl,by kernel_rfl,by kernel_rfl⟩
theorem td_97:TdOk Tryd.prog 97 ⟨.fn,1,8,[.one (.nilFn)]⟩:=⟨by kernel_rfl,show _=_ by kernel_rfl,by kernel_rfl,by kernel_rfl,by kernel_rfl⟩
theorem td_98:TdOk Tryd.prog 98 ⟨.slice 120,1,24,[.one (.slc none 0 0)]⟩:=⟨by kernel_rfl,show _=_ by kernel_rfl,by kernel_rfl,by kernel_rfl,by kernel_rfl⟩
theorem td_99:TdOk Tryd.prog 99 ⟨.struct [(98,0)],1,24,[.one (.slc none 0 0)]⟩:=⟨by kernel_rfl,show _=_ by kernel_rfl,by kernel_rfl,by kernel_rfl,by kernel_rfl⟩
theorem td_100:TdOk Tryd.prog 100 ⟨.struct [(98,0)],1,24,[.one (.slc none 0 0)]⟩:=⟨by kernel_rfl,show _=_ by kernel_rfl,by kernel_rfl,by kernel_rfl,by kernel_rfl⟩
theorem td_101:TdOk Tryd.prog 101 ⟨.fn,1,8,[.one (.nilFn)]⟩:=⟨by kernel_rfl,show _=_ by kernel_rfl,by kernel_rfl,by kernel_rfl,by kernel_rfl⟩
theorem td_102:TdOk Tryd.prog 102 ⟨.fn,1,8,[.one (.nilFn)]⟩:=⟨by kernel_rfl,show _=_ by kernel_rfl,by kernel_rfl,by kernel_rfl,by kernel_rfl⟩
theorem td_103:TdOk Tryd.prog 103 ⟨.fn,1,8,[.one (.nilFn)]⟩:=⟨by kernel_rfl,show _=_ by kernel_rfl,by kernel_rfl,by kernel_rfl,by kernel_rfl⟩
theorem td_104:TdOk Tryd.prog 104 ⟨.fn,1,8,[.one (.nilFn)]⟩:=⟨by kernel_rfl,show _=_ by kernel_rfl,by kernel_rfl,by kernel_rfl,by kernel_rfl⟩
theorem td_105:TdOk Tryd.prog 105 ⟨.slice 34,1,24,[.one (.slc none 0 0)]⟩:=⟨by kernel_rfl,show _=_ by kernel_rfl,by kernel_rfl,by kernel_rfl,by kernel_rfl⟩
theorem td_106:TdOk Tryd.prog 106 ⟨.fn,1,8,[.one (.nilFn)]⟩:=⟨by kernel_rfl,show _=_ by kernel_rfl,by kernel_rfl,by kernel_rfl,by kernel_rfl⟩
theorem td_107:TdOk Tryd.prog 107 ⟨.fn,1,8,[.one (.nilFn)]⟩:=⟨by kernel_rfl,show _=_ by kernel_rfl,by kernel_rfl,by kernel_rfl,by kernel_rfl⟩
theorem td_108:TdOk Tryd.prog 108 ⟨.int .u64,1,8,[.one (.w64 0)]⟩:=⟨by kernel_rfl,show _=_ by kernel_rfl,by kernel_rfl,by kernel_rfl,by kernel_rfl⟩
theorem td_110:TdOk Tryd.prog 110 ⟨.fn,1,8,[.one (.nilFn)]⟩:=⟨by kernel_rfl,show _=_ by kernel_rfl,by kernel_rfl,by kernel_rfl,by kernel_rfl⟩
theorem td_111:TdOk Tryd.prog 111 ⟨.fn,1,8,[.one (.nilFn)]⟩:=⟨by kernel_rfl,show _=_ by kernel_rfl,by kernel_rfl,by kernel_rfl,by kernel_rfl⟩
theorem td_113:TdOk Tryd.prog 113 ⟨.fn,1,8,[.one (.nilFn)]⟩:=⟨by kernel_rfl,show _=_ by kernel_rfl,by kernel_rfl,by kernel_rfl,by kernel_rfl⟩
theorem td_114:TdOk Tryd.prog 114 ⟨.array 3 9,3,48,[.row 3 (fun _=>.str [])]⟩:=⟨by kernel_rfl,show _=_ by kernel_rfl,by kernel_rfl,by kernel_rfl,by kernel_rfl⟩
theorem td_115:TdOk Tryd.prog 115 ⟨.fn,1,8,[.one (.nilFn)]⟩:=⟨by kernel_rfl,show _=_ by kernel_rfl,by kernel_rfl,by kernel_rfl,by kernel_rfl⟩
theorem td_116:TdOk Tryd.prog 116 ⟨.fn,1,8,[.one (.nilFn)]⟩:=⟨by kernel_rfl,show _=_ by kernel_rfl,by kernel_rfl,by kernel_rfl,by kernel_rfl⟩
theorem td_117:TdOk Tryd.prog 117 ⟨.ptr 95,1,8,[.one (.ptr none)]⟩:=⟨by kernel_rfl,show _=_ by kernel_rfl,by kernel_rfl,by kernel_rfl,by kernel_rfl⟩
theorem td_118:TdOk Tryd.prog 118 ⟨.fn,1,8,[.one (.nilFn)]⟩:=⟨by kernel_rfl,show _=_ by kernel_rfl,by kernel_rfl,by kernel_rfl,by kernel_rfl⟩
theorem td_119:TdOk Tryd.prog 119 ⟨.struct [(75,0),(3,1),(3,2)],3,24,[.one (.ptr none),.one (.int .i64 0),.one (.int .i64 0)]⟩:=⟨by kernel_rfl,show _=_ by kernel_rfl,by kernel_rfl,by kernel_rfl,by kernel_rfl⟩
theorem td_120:TdOk Tryd.prog 120 ⟨.struct [(75,0),(3,1),(3,2)],3,24,[.one (.ptr none),.one (.int .i64 0),.one (.int .i64 0)]⟩:=⟨by kernel_rfl,show _=_ by kernel_rfl,by kernel_rfl,by kernel_rfl,by kernel_rfl⟩
theorem td_121:TdOk Tryd.prog 121 ⟨.array 2 120,6,48,[.row 6 (fun j=>nthC [.ptr none,.int .i64 0,.int .i64 0] (j % 3))]⟩:=⟨by kernel_rfl,show _=_ by kernel_rfl,by kernel_rfl,by kernel_rfl,by kernel_rfl⟩
theorem td_122:TdOk Tryd.prog 122 ⟨.fn,1,8,[.one (.nilFn)]⟩:=⟨by kernel_rfl,show _=_ by kernel_rfl,by kernel_rfl,by kernel_rfl,by kernel_rfl⟩
theorem td_123:TdOk Tryd.prog 123 ⟨.fn,1,8,[.one (.nilFn)]⟩:=⟨by kernel_rfl,show _=_ by kernel_rfl,by kernel_rfl,by kernel_rfl,by kernel_rfl⟩
theorem td_124:TdOk Tryd.prog 124 ⟨.fn,1,8,[.one (.nilFn)]⟩:=⟨by kernel_rfl,show _=_ by kernel_rfl,by kernel_rfl,by kernel_rfl,by kernel_rfl⟩
theorem td_125:TdOk Tryd.prog 125 ⟨.ptr 100,1,8,[.one (.ptr none)]⟩:=⟨by kernel_rfl,show _=_ by kernel_rfl,by kernel_rfl,by kernel_rfl,by kernel_rfl⟩
theorem td_126:TdOk Tryd.prog 126 ⟨.fn,1,8,[.one (.nilFn)]⟩:=⟨by kernel_rfl,show _=_ by kernel_rfl,by kernel_rfl,by kernel_rfl,by kernel_rfl⟩
theorem td_127:TdOk Tryd.prog 127 ⟨.fn,1,8,[.one (.nilFn)]⟩:=⟨by kernel_rfl,show _=_ by kernel_rfl,by kernel_rfl,by kernel_rfl,by kernel_rfl⟩
theorem td_128:TdOk Tryd.prog 128 ⟨.fn,1,8,[.one (.nilFn)]⟩:=⟨by kernel_rfl,show _=_ by kernel_rfl,by kernel_rfl,by kernel_rfl,by kernel_rfl⟩
theorem td_130:TdOk Tryd.prog 130 ⟨.fn,1,8,[.one (.nilFn)]⟩:=⟨by kernel_rfl,show _=_ by kernel_rfl,by kernel_rfl,by kernel_rfl,by kernel_rfl⟩
theorem td_132:TdOk Tryd.prog 132 ⟨.fn,1,8,[.one (.nilFn)]⟩:=⟨by kernel_rfl,show _=_ by kernel_rfl,by kernel_rfl,by kernel_rfl,by kernel_rfl⟩
theorem td_133:TdOk Tryd.prog 133 ⟨.fn,1,8,[.one (.nilFn)]⟩:=⟨by kernel_rfl,show _=_ by kernel_rfl,by kernel_rfl,by kernel_rfl,by kernel_rfl⟩
theorem td_135:TdOk Tryd.prog 135 ⟨.fn,1,8,[.one (.nilFn)]⟩:=⟨by kernel_rfl,show _=_ by kernel_rfl,by kernel_rfl,by kernel_rfl,by kernel_rfl⟩
theorem td_136:TdOk Tryd.prog 136 ⟨.map .strs,1,8,[.one (.nilMap)]⟩:=⟨by kernel_rfl,⟨9,144,by kernel_rfl,by kernel_rfl,by kernel_rfl⟩,by kernel_rfl,by kernel_rfl,by kernel_rfl⟩
theorem td_137:TdOk Tryd.prog 137 ⟨.fn,1,8,[.one (.nilFn)]⟩:=⟨by kernel_rfl,show _=_ by kernel_rfl,by kernel_rfl,by kernel_rfl,by kernel_rfl⟩
theorem td_138:TdOk Tryd.prog 138 ⟨.fn,1,8,[.one (.nilFn)]⟩:=⟨by kernel_rfl,show _=_ by kernel_rfl,by kernel_rfl,by kernel_rfl,by kernel_rfl⟩
theorem td_139:TdOk Tryd.prog 139 ⟨.fn,1,8,[.one (.nilFn)]⟩:=⟨by kernel_rfl,show _=_ by kernel_rfl,by kernel_rfl,by kernel_rfl,by kernel_rfl⟩
theorem td_140:TdOk Tryd.prog 140 ⟨.array 256 5,256,256,[.row 256 (fun _=>.w8 0)]⟩:=⟨by kernel_rfl,show _=_ by kernel_rfl,by kernel_rfl,by kernel_rfl,by kernel_rfl⟩
theorem td_141:TdOk Tryd.prog 141 ⟨.struct [(5,0),(5,1)],2,2,[.one (.w8 0),.one (.w8 0)]⟩:=⟨by kernel_rfl,show _=_ by kernel_rfl,by kernel_rfl,by kernel_rfl,by kernel_rfl⟩
theorem td_142:TdOk Tryd.prog 142 ⟨.struct [(5,0),(5,1)],2,2,[.one (.w8 0),.one (.w8 0)]⟩:=⟨by kernel_rfl,show _=_ by kernel_rfl,by kernel_rfl,by kernel_rfl,by kernel_rfl⟩
theorem td_143:TdOk Tryd.prog 143 ⟨.array 16 142,32,32,[.row 32 (fun _=>.w8 0)]⟩:=⟨by kernel_rfl,show _=_ by kernel_rfl,by kernel_rfl,by kernel_rfl,by kernel_rfl⟩
theorem td_144:TdOk Tryd.prog 144 ⟨.struct [],0,0,[]⟩:=⟨by kernel_rfl,show _=_ by kernel_rfl,by kernel_rfl,by kernel_rfl,by kernel_rfl⟩
theorem td_146:TdOk Tryd.prog 146 ⟨.fn,1,8,[.one (.nilFn)]⟩:=⟨by kernel_rfl,show _=_ by kernel_rfl,by kernel_rfl,by kernel_rfl,by kernel_rfl⟩
theorem td_147:TdOk Tryd.prog 147 ⟨.int .u32,1,4,[.one (.w32 0)]⟩:=⟨by kernel_rfl,show _=_ by kernel_rfl,by kernel_rfl,by kernel_rfl,by kernel_rfl⟩
theorem td_148:TdOk Tryd.prog 148 ⟨.fn,1,8,[.one (.nilFn)]⟩:=⟨by kernel_rfl,show _=_ by kernel_rfl,by kernel_rfl,by kernel_rfl,by kernel_rfl⟩
theorem td_149:TdOk Tryd.prog 149 ⟨.array 24 5,24,24,[.row 24 (fun _=>.w8 0)]⟩:=⟨by kernel_rfl,show _=_ by kernel_rfl,by kernel_rfl,by kernel_rfl,by kernel_rfl⟩
theorem td_150:TdOk Tryd.prog 150 ⟨.fn,1,8,[.one (.nilFn)]⟩:=⟨by kernel_rfl,show _=_ by kernel_rfl,by kernel_rfl,by kernel_rfl,by kernel_rfl⟩
theorem td_151:TdOk Tryd.prog 151 ⟨.fn,1,8,[.one (.nilFn)]⟩:=⟨by kernel_rfl,show _=_ by kernel_rfl,by kernel_rfl,by kernel_rfl,by kernel_rfl⟩
theorem td_153:TdOk Tryd.prog 153 ⟨.fn,1,8,[.one (.nilFn)]⟩:=⟨by kernel_rfl,show _=_ by kernel_rfl,by kernel_rfl,by kernel_rfl,by kernel_rfl⟩
theorem td_154:TdOk Tryd.prog 154 ⟨.fn,1,8,[.one (.nilFn)]⟩:=⟨by kernel_rfl,show _=_ by kernel_rfl,by kernel_rfl,by kernel_rfl,by kernel_rfl⟩
theorem td_155:TdOk Tryd.prog 155 ⟨.fn,1,8,[.one (.nilFn)]⟩:=⟨by kernel_rfl,show _=_ by kernel_rfl,by kernel_rfl,by kernel_rfl,by kernel_rfl⟩
theorem td_156:TdOk Tryd.prog 156 ⟨.array 20 23,20,160,[.row 20 (fun _=>.w64 0)]⟩:=⟨by kernel_rfl,show _=_ by kernel_rfl,by kernel_rfl,by kernel_rfl,by kernel_rfl⟩
theorem td_157:TdOk Tryd.prog 157 ⟨.array 65 5,65,65,[.row 65 (fun _=>.w8 0)]⟩:=⟨by kernel_rfl,show _=_ by kernel_rfl,by kernel_rfl,by kernel_rfl,by kernel_rfl⟩
theorem td_158:TdOk Tryd.prog 158 ⟨.fn,1,8,[.one (.nilFn)]⟩:=⟨by kernel_rfl,show _=_ by kernel_rfl,by kernel_rfl,by kernel_rfl,by kernel_rfl⟩
theorem td_159:TdOk Tryd.prog 159 ⟨.fn,1,8,[.one (.nilFn)]⟩:=⟨by kernel_rfl,show _=_ by kernel_rfl,by kernel_rfl,by kernel_rfl,by kernel_rfl⟩
theorem td_160:TdOk Tryd.prog 160 ⟨.fn,1,8,[.one (.nilFn)]⟩:=⟨by kernel_rfl,show _=_ by kernel_rfl,by kernel_rfl,by kernel_rfl,by kernel_rfl⟩
theorem td_161:TdOk Tryd.prog 161 ⟨.array 32 5,32,32,[.row 32 (fun _=>.w8 0)]⟩:=⟨by kernel_rfl,show _=_ by kernel_rfl,by kernel_rfl,by kernel_rfl,by kernel_rfl⟩
theorem td_162:TdOk Tryd.prog 162 ⟨.array 64 5,64,64,[.row 64 (fun _=>.w8 0)]⟩:=⟨by kernel_rfl,show _=_ by kernel_rfl,by kernel_rfl,by kernel_rfl,by kernel_rfl⟩
theorem td_163:TdOk Tryd.prog 163 ⟨.fn,1,8,[.one (.nilFn)]⟩:=⟨by kernel_rfl,show _=_ by kernel_rfl,by kernel_rfl,by kernel_rfl,by kernel_rfl⟩
theorem td_164:TdOk Tryd.prog 164 ⟨.struct [(17,0),(17,1),(17,2),(9,3)],4,40,[.one (.ptr none),.one (.ptr none),.one (.ptr none),.one (.str [])]⟩:=⟨by kernel_rfl,show _=_ by kernel_rfl,by kernel_rfl,by kernel_rfl,by kernel_rfl⟩
theorem td_165:TdOk Tryd.prog 165 ⟨.struct [(17,0),(17,1),(17,2),(9,3)],4,40,[.one (.ptr none),.one (.ptr none),.one (.ptr none),.one (.str [])]⟩:=⟨by kernel_rfl,show _=_ by kernel_rfl,by kernel_rfl,by kernel_rfl,by kernel_rfl⟩
theorem td_166:TdOk Tryd.prog 166 ⟨.array 0 16,0,0,[.row 0 (fun _=>.ptr none)]⟩:=⟨by kernel_rfl,show _=_ by kernel_rfl,by kernel_rfl,by kernel_rfl,by kernel_rfl⟩
theorem td_167:TdOk Tryd.prog 167 ⟨.struct [(166,0)],0,0,[.row 0 (fun _=>.ptr none)]⟩:=⟨by kernel_rfl,show _=_ by kernel_rfl,by kernel_rfl,by kernel_rfl,by kernel_rfl⟩
theorem td_168:TdOk Tryd.prog 168 ⟨.struct [(166,0)],0,0,[.row 0 (fun _=>.ptr none)]⟩:=⟨by kernel_rfl,show _=_ by kernel_rfl,by kernel_rfl,by kernel_rfl,by kernel_rfl⟩
theorem td_169:TdOk Tryd.prog 169 ⟨.fn,1,8,[.one (.nilFn)]⟩:=⟨by kernel_rfl,show _=_ by kernel_rfl,by kernel_rfl,by kernel_rfl,by kernel_rfl⟩
theorem td_170:TdOk Tryd.prog 170 ⟨.int .u8,1,1,[.one (.w8 0)]⟩:=⟨by kernel_rfl,show _=_ by kernel_rfl,by kernel_rfl,by kernel_rfl,by kernel_rfl⟩
theorem td_171:TdOk Tryd.prog 171 ⟨.int .u8,1,1,[.one (.w8 0)]⟩:=⟨by kernel_rfl,show _=_ by kernel_rfl,by kernel_rfl,by kernel_rfl,by kernel_rfl⟩
theorem td_172:TdOk Tryd.prog 172 ⟨.fn,1,8,[.one (.nilFn)]⟩:=⟨by kernel_rfl,show _=_ by kernel_rfl,by kernel_rfl,by kernel_rfl,by kernel_rfl⟩
theorem td_173:TdOk Tryd.prog 173 ⟨.ptr 5,1,8,[.one (.ptr none)]⟩:=⟨by kernel_rfl,show _=_ by kernel_rfl,by kernel_rfl,by kernel_rfl,by kernel_rfl⟩
theorem td_174:TdOk Tryd.prog 174 ⟨.int .i32,1,4,[.one (.int .i32 0)]⟩:=⟨by kernel_rfl,show _=_ by kernel_rfl,by kernel_rfl,by kernel_rfl,by kernel_rfl⟩
theorem td_175:TdOk Tryd.prog 175 ⟨.int .i32,1,4,[.one (.int .i32 0)]⟩:=⟨by kernel_rfl,show _=_ by kernel_rfl,by kernel_rfl,by kernel_rfl,by kernel_rfl⟩
theorem td_176:TdOk Tryd.prog 176 ⟨.struct [(12,0),(12,1),(147,2),(170,3),(5,4),(5,5),(171,6),(172,7),(173,8),(174,9),(175,10)],11,48,[.one (.w64 0),.one (.w64 0),.one (.w32 0),.one (.w8 0),.one (.w8 0),.one (.w8 0),.one (.w8 0),.one (.nilFn),.one (.ptr none),.one (.int .i32 0),.one (.int .i32 0)]⟩:=⟨by kernel_rfl,show _=_ by kernel_rfl,by kernel_rfl,by kernel_rfl,by kernel_rfl⟩
theorem td_177:TdOk Tryd.prog 177 ⟨.struct [(12,0),(12,1),(147,2),(170,3),(5,4),(5,5),(171,6),(172,7),(173,8),(174,9),(175,10)],11,48,[.one (.w64 0),.one (.w64 0),.one (.w32 0),.one (.w8 0),.one (.w8 0),.one (.w8 0),.one (.w8 0),.one (.nilFn),.one (.ptr none),.one (.int .i32 0),.one (.int .i32 0)]⟩:=⟨by kernel_rfl,show _=_ by kernel_rfl,by kernel_rfl,by kernel_rfl,by kernel_rfl⟩
theorem tds_ok:AllT Tryd.prog tds:=⟨td_1,td_2,td_3,td_4,td_5,td_6,td_7,td_8,td_9,td_10,td_11,td_12,td_13,td_14,td_15,td_16,td_17,td_18,td_19,td_20,td_21,td_22,td_23,td_24,td_25,td_26,td_27,td_28,td_29,td_30,td_31,td_32,td_33,td_34,td_35,td_36,td_37,td_39,td_40,td_42,td_43,td_44,td_45,td_46,td_47,td_49,td_50,td_51,td_53,td_54,td_55,td_56,td_57,td_58,td_60,td_61,td_62,td_63,td_64,td_65,td_66,td_67,td_69,td_70,td_71,td_73,td_74,td_75,td_76,td_77,td_78,td_79,td_81,td_82,td_84,td_85,td_86,td_87,td_88,td_89,td_90,td_91,td_92,td_93,td_94,td_95,td_96,td_97,td_98,td_99,td_100,td_101,td_102,td_103,td_104,td_105,td_106,td_107,td_108,td_110,td_111,td_113,td_114,td_115,td_116,td_117,td_118,td_119,td_120,td_121,td_122,td_123,td_124,td_125,td_126,td_127,td_128,td_130,td_132,td_133,td_135,td_136,td_137,td_138,td_139,td_140,td_141,td_142,td_143,td_144,td_146,td_147,td_148,td_149,td_150,td_151,td_153,td_154,td_155,td_156,td_157,td_158,td_159,td_160,td_161,td_162,td_163,td_164,td_165,td_166,td_167,td_168,td_169,td_170,td_171,td_172,td_173,td_174,td_175,td_176,td_177,trivial⟩
end Sx
end
section
namespace Sx

theorem frcN_of {n m:Nat} {k:Nat→Prop} (h:n=m) (hk:k m):frcN n k:=by subst h; exact hk
end Sx
end
section
namespace Sha
abbrev Bs:=List (BitVec 8)
def L (l:Bs) (i:Nat):BitVec 8:=l.getD i 0#8
theorem L_lt {l:Bs} {i:Nat} (h:i<l.length):L l i=l[i]:=by
 unfold L; rw [List.getD_eq_getElem?_getD,List.getElem?_eq_getElem h]; rfl
theorem L_app1 {l m:Bs} {i:Nat} (h:i<l.length):L (l++m) i=L l i:=by
 unfold L; rw [List.getD_eq_getElem?_getD,List.getD_eq_getElem?_getD,List.getElem?_append_left h]
theorem L_app2 {l m:Bs} {i:Nat}:L (l++m) (l.length+i)=L m i:=by
 unfold L; rw [List.getD_eq_getElem?_getD,List.getD_eq_getElem?_getD,List.getElem?_append_right (by omega),Nat.add_sub_cancel_left]
theorem L_app {l m:Bs} {i:Nat}:L (l++m) i=if i<l.length then L l i else L m (i-l.length):=by
 split
 ·rename_i h; exact L_app1 h
 ·rename_i h
  have:=@L_app2 l m (i-l.length)
  rwa [show l.length+(i-l.length)=i by omega] at this
theorem L_drop (l:Bs) (o i:Nat):L (l.drop o) i=L l (o+i):=by
 unfold L; rw [List.getD_eq_getElem?_getD,List.getD_eq_getElem?_getD,List.getElem?_drop]
theorem L_take (l:Bs) (n i:Nat) (h:i<n):L (l.take n) i=L l i:=by
 unfold L; rw [List.getD_eq_getElem?_getD,List.getD_eq_getElem?_getD,List.getElem?_take,if_pos h]
def tab (n:Nat) (b:Nat→BitVec 8):Bs:=(List.range n).map b
@[simp] theorem tab_len (n:Nat) (b:Nat→BitVec 8):(tab n b).length=n:=by simp [tab]
theorem L_tab {n:Nat} {b:Nat→BitVec 8} {i:Nat} (h:i<n):L (tab n b) i=b i:=by
 unfold L tab; rw [List.getD_eq_getElem?_getD]; simp [h]
def U8 (l:Bs):List UInt8:=l.map UInt8.ofBitVec
@[simp] theorem U8_len (l:Bs):(U8 l).length=l.length:=by simp [U8]
theorem U8_get (l:Bs) (q:Nat) (h:q<l.length):((U8 l).getD q 0).toBitVec=L l q:=by
 rw [L_lt h,List.getD_eq_getElem?_getD,U8,List.getElem?_map,List.getElem?_eq_getElem h]
 rfl
theorem U8_inj {l m:Bs} (h:U8 l=U8 m):l=m:=by
 have:(U8 l).map UInt8.toBitVec=(U8 m).map UInt8.toBitVec:=congrArg _ h
 simpa [U8,Function.comp_def] using this
def BS (l:List UInt8):Bs:=l.map UInt8.toBitVec
@[simp] theorem BS_len (l:List UInt8):(BS l).length=l.length:=by simp [BS]
theorem L_BS (l:List UInt8) (i:Nat) (hi:i<l.length):L (BS l) i=(l.getD i 0).toBitVec:=by
 rw [L_lt (by simpa using hi),List.getD_eq_getElem?_getD,List.getElem?_eq_getElem hi]
 simp [BS]
end Sha
namespace Sx
open Sha

theorem follows_:Tryd.prog.follows .mixedOrders=true:=by kernel_rfl
theorem eqC_w8 {q:List Nat} {x:SC} {b:BitVec 8} (h:x=.w8 b):eqC q x (.w8 b) True:=by subst h; exact ⟨rfl,trivial⟩
def bytesF (n:Nat) (b:Nat→BitVec 8):Nat→SC:=fun j=>if j<n then .w8 (b j) else .any
theorem bytesF_lt {n:Nat} {b:Nat→BitVec 8} {j:Nat} (h:j<n):bytesF n b j=.w8 (b j):=if_pos h
theorem eqC_bytes {q:List Nat} {n:Nat} {f:Nat→SC} {b:Nat→BitVec 8} (h:∀ j,j<n→f j=.w8 (b j)) (j:Nat):eqC q (f j) (bytesF n b j) True:=by
 unfold bytesF
 split
 ·rename_i hj; exact eqC_w8 (h j hj)
 ·trivial
theorem len2' {α:Type}:∀ {l:List α},l.length=2→∃ a b,l=[a,b]
 | [a,b],_=>⟨a,b,rfl⟩
def winF (o n:Nat) (b:Nat→BitVec 8):Nat→SC:=fun j=>if o≤j∧j<o+n then .w8 (b (j-o)) else .any
theorem winF_at (o n:Nat) (b:Nat→BitVec 8) {i:Nat} (h:i<n):winF o n b (o+i)=.w8 (b i):=by
 unfold winF
 rw [if_pos ⟨by omega,by omega⟩,show o+i-o=i by omega]
theorem eqC_win {q:List Nat} {o n:Nat} {f:Nat→SC} {b:Nat→BitVec 8} (h:∀ i,i<n→f (o+i)=.w8 (b i)) (j:Nat):eqC q (f j) (winF o n b j) True:=by
 unfold winF
 split
 ·rename_i hj
  have:=h (j-o) (by omega)
  rw [show o+(j-o)=j by omega] at this
  exact eqC_w8 this
 ·trivial
theorem eqC_winS {q:List Nat} {o n:Nat} {b:Nat→BitVec 8} {j:Nat}:eqC q (winF o n b j) (winF o n b j) True:=eqC_win (fun _ h=>winF_at _ _ _ h) j
theorem eqC_winM {q:List Nat} {g:Nat→Nat} {o n:Nat} {b:Nat→BitVec 8} {j:Nat}:eqC q (SC.mp g (winF o n b j)) (winF o n b j) True :=
 eqC_win (f:=fun j=>SC.mp g (winF o n b j)) (fun _ h=>by rw [winF_at _ _ _ h]; rfl) j
theorem eqC_selfB {q:List Nat} {n:Nat} {b:Nat→BitVec 8} {j:Nat}:eqC q (bytesF n b j) (bytesF n b j) True:=eqC_bytes (fun _ h=>bytesF_lt h) j
theorem eqC_mpB {q:List Nat} {g:Nat→Nat} {n:Nat} {b:Nat→BitVec 8} {j:Nat}:eqC q (SC.mp g (bytesF n b j)) (bytesF n b j) True :=
 eqC_bytes (f:=fun j=>SC.mp g (bytesF n b j)) (fun j h=>by rw [bytesF_lt h]; rfl) j
theorem eqC_winB {q:List Nat} {n:Nat} {b:Nat→BitVec 8} {j:Nat}:eqC q (bytesF n b j) (winF 0 n b j) True :=
 eqC_win (fun i h=>by rw [Nat.zero_add]; exact bytesF_lt h) j
def bts:Bool→Nat→Nat→Nat→(Nat→BitVec 8)→List Seg
 | true,_,_,_,_=>[]
 | false,N,o,n,b=>[.row N (winF o n b)]
def sub (l:Bs) (o n:Nat):Bs:=(l.drop o).take n
theorem nthC_w8:∀ (l:Bs) (j:Nat),j<l.length→nthC (l.map SC.w8) j=.w8 (L l j)
 | [],_,h=>absurd h (by simp)
 | x::l,0,_=>rfl
 | x::l,j+1,h=>nthC_w8 l j (by simpa using h)
theorem app_row {f g:Nat→SC} {l m:Bs} {n k:Nat} (hn:l.length=n) (hk:m.length=k) (hf:∀ i,i<n→f i=.w8 (L l i)) (hg:∀ i,i<k→g i=.w8 (L m i)) (i:Nat) (hi:i<n+k) :
  appF f 0 (scale n (0+1)) (scale k (0+1)) g i=.w8 (L (l++m) i):=by
 have e1:scale n (0+1)=n:=by rw [scale_eq,Nat.zero_add,Nat.mul_one]
 have e2:scale k (0+1)=k:=by rw [scale_eq,Nat.zero_add,Nat.mul_one]
 unfold appF
 rw [e1,e2,L_app,hn]
 by_cases h:i<n
 ·rw [if_pos h,if_pos h]; exact hf i h
 ·rw [if_neg h,if_pos hi,if_neg h]; exact hg _ (by omega)
theorem new_row {g:Nat→SC} {m:Bs} {k:Nat} (hg:∀ i,i<k→g i=.w8 (L m i)) (i:Nat) (hi:i<k):newF (scale k (0+1)) g i=.w8 (L m i):=by
 have e2:scale k (0+1)=k:=by rw [scale_eq,Nat.zero_add,Nat.mul_one]
 unfold newF
 rw [e2,if_pos hi]; exact hg i hi
theorem one_row {x y:BitVec 8} (h:x=y) (i:Nat) (hi:i<1):nthC [.w8 x] i=.w8 (L [y] i):=by
 obtain rfl:i=0:=by omega
 subst h; rfl
theorem ent1 {a b:Prop} (k:b) (h:a:=by first|exact rfl|exact fun _ _=>⟨rfl,trivial⟩|exact fun _ _=>trivial|exact ⟨rfl,rfl⟩|omega|exact fun _ _=>eqC_winS|exact fun _ _=>eqC_winM|exact fun _ _=>eqC_winB|exact fun _ _=>eqC_selfB|exact fun _ _=>eqC_mpB):a∧b:=⟨h,k⟩
end Sx
end
section
namespace Js
open Sha

def dec (l:Bs):Nat × Nat:=Lib.decodeN l.length (L l 0).toNat (L l 1).toNat (L l 2).toNat (L l 3).toNat
def b8 (n:Nat):BitVec 8:=BitVec.ofNat 8 n
theorem b8_nat {n:Nat} (h:n<256):(b8 n).toNat=n:=by simp [b8,BitVec.toNat_ofNat,Nat.mod_eq_of_lt h]
theorem b8_self (c:BitVec 8):b8 c.toNat=c:=by simp [b8]
def scal (r:Nat):Prop:=r<55296∨(57344≤r∧r≤1114111)
def enc (r:Nat):Bs:=if r<128 then [b8 r] else if r<2048 then [b8 (192+r / 64),b8 (128+r % 64)] else if r<65536 then [b8 (224+r / 4096),b8 (128+r / 64 % 64),b8 (128+r % 64)] else [b8 (240+r / 262144),b8 (128+r / 4096 % 64),b8 (128+r / 64 % 64),b8 (128+r % 64)]
theorem enc_ne (r:Nat):enc r≠[]:=by
 unfold enc
 repeat' split
 all_goals simp
theorem enc_pos (r:Nat):0<(enc r).length:=List.length_pos_iff.2 (enc_ne r)
theorem L_cons0 (c:BitVec 8) (l:Bs):L (c::l) 0=c:=rfl
theorem L_consS (c:BitVec 8) (l:Bs) (i:Nat):L (c::l) (i+1)=L l i:=by simp [L]
theorem dec_ascii {c:BitVec 8} {l:Bs} (h:c.toNat<128):dec (c::l)=(c.toNat,1):=by
 unfold dec Lib.decodeN
 rw [L_cons0,if_pos h]
theorem dec_enc {r:Nat} (h:scal r) (t:Bs):dec (enc r++t)=(r,(enc r).length):=by
 unfold scal at h
 unfold enc
 split
 ·exact (dec_ascii (by rw [b8_nat (by omega)]; omega)).trans (by rw [b8_nat (by omega)]; rfl)
 split
 ·have h1:(b8 (192+r / 64)).toNat=192+r / 64:=b8_nat (by omega)
  have h2:(b8 (128+r % 64)).toNat=128+r % 64:=b8_nat (by omega)
  unfold dec Lib.decodeN
  simp only [List.cons_append,List.nil_append,List.length_cons,L_cons0,L_consS,h1,h2]
  rw [if_neg (by omega),if_pos ⟨by omega,by omega,by omega⟩,if_pos (by omega)]
  rw [Prod.mk.injEq]
  exact ⟨by omega,rfl⟩
 split
 ·have h1:(b8 (224+r / 4096)).toNat=224+r / 4096:=b8_nat (by omega)
  have h2:(b8 (128+r / 64 % 64)).toNat=128+r / 64 % 64:=b8_nat (by omega)
  have h3:(b8 (128+r % 64)).toNat=128+r % 64:=b8_nat (by omega)
  have e:(224+r / 4096) % 16*4096+(128+r / 64 % 64) % 64*64+(128+r % 64) % 64=r:=by omega
  unfold dec Lib.decodeN
  simp only [List.cons_append,List.nil_append,List.length_cons,L_cons0,L_consS,h1,h2,h3]
  rw [if_neg (by omega),if_neg (by omega),if_pos ⟨by omega,⟨by omega,by omega⟩,by omega,by omega⟩,e,if_pos (by omega)]
  rfl
 ·have h1:(b8 (240+r / 262144)).toNat=240+r / 262144:=b8_nat (by omega)
  have h2:(b8 (128+r / 4096 % 64)).toNat=128+r / 4096 % 64:=b8_nat (by omega)
  have h3:(b8 (128+r / 64 % 64)).toNat=128+r / 64 % 64:=b8_nat (by omega)
  have h4:(b8 (128+r % 64)).toNat=128+r % 64:=b8_nat (by omega)
  have e:(240+r / 262144) % 8*262144+(128+r / 4096 % 64) % 64*4096+(128+r / 64 % 64) % 64*64+(128+r % 64) % 64=r:=by omega
  unfold dec Lib.decodeN
  simp only [List.cons_append,List.nil_append,List.length_cons,L_cons0,L_consS,h1,h2,h3,h4]
  rw [if_neg (by omega),if_neg (by omega),if_neg (by omega),if_pos ⟨by omega,⟨by omega,by omega⟩,⟨by omega,by omega⟩,by omega,by omega⟩,e,if_pos (by omega)]
  rfl
theorem L_ge {l:Bs} {i:Nat} (h:l.length≤i):L l i=0#8:=by
 unfold L; rw [List.getD_eq_getElem?_getD,List.getElem?_eq_none h]; rfl
def Utf (l:Bs):Prop:=∃ rs:List Nat,(∀ r∈rs,scal r)∧l=rs.flatMap enc
theorem Utf.nil:Utf []:=⟨[],by simp,rfl⟩
theorem Utf.ascii {l:Bs} (h:∀ c∈l,c.toNat<128):Utf l:=by
 refine ⟨l.map BitVec.toNat,fun r hr=>?_,?_⟩
 ·obtain ⟨c,hc,rfl⟩:=List.mem_map.1 hr
  exact .inl (by have:=h c hc; omega)
 ·induction l with
  | nil=>rfl
  | cons c l ih =>
   rw [List.map_cons,List.flatMap_cons,← ih fun c hc=>h c (List.mem_cons_of_mem _ hc)]
   have:enc c.toNat=[c]:=by unfold enc; rw [if_pos (h c (List.mem_cons_self ..)),b8_self]
   rw [this]; rfl
end Js
end
section
namespace Js
open Sha

inductive JT where
 | mk (k:BitVec 8) (n:BitVec 64) (s:Bs) (l:List JT) (ns:List Bs)
def JT.k:JT→BitVec 8|mk k _ _ _ _=>k
def JT.n:JT→BitVec 64|mk _ n _ _ _=>n
def JT.s:JT→Bs|mk _ _ s _ _=>s
def JT.l:JT→List JT|mk _ _ _ l _=>l
def JT.ns:JT→List Bs|mk _ _ _ _ ns=>ns
inductive R (α:Type) where
 | ok (v:α) (r:Bs)
 | bad (e:Int)
def blank (c:BitVec 8):Bool:=c == 32#8 || c == 9#8 || c == 13#8 || c == 10#8
def blanks:Bs→Bs
 | []=>[]
 | c::r=>if blank c=true then blanks r else c::r
def hexv (c:BitVec 8):Option Nat :=
 if 48≤c.toNat∧c.toNat≤57 then some (c.toNat-48) else if 97≤c.toNat∧c.toNat≤102 then some (c.toNat-87) else if 65≤c.toNat∧c.toNat≤70 then some (c.toNat-55) else none
def unit:Bs→Option (Nat × Bs)
 | a::b::c::d::e::f::r=>if a=92#8∧b=117#8 then match hexv c,hexv d,hexv e,hexv f with
  | some c,some d,some e,some f=>some (((c*16+d)*16+e)*16+f,r)
  | _,_,_,_=>none
  else none
 | _=>none
def coded (l:Bs):R Nat:=match unit l with
 | none=>.bad 4
 | some (r,t)=>if r<55296∨57343<r then .ok r t else if 56320≤r then .bad 4 else match unit t with
  | none=>.bad 4
  | some (low,u)=>if low<56320∨57343<low then .bad 4 else .ok (65536+(r-55296)*1024+(low-56320)) u
def esc1 (c:BitVec 8):Option Nat :=
 if c=34#8∨c=92#8∨c=47#8 then some c.toNat else if c=98#8 then some 8 else if c=102#8 then some 12 else if c=110#8 then some 10 else if c=114#8 then some 13 else if c=116#8 then some 9 else none
def esc (l:Bs):R Nat:=match l with
 | _::c::r=>match esc1 c with
  | some v=>.ok v r
  | none=>if c=117#8 then coded l else .bad 4
 | _=>.bad 3
def ptext:Nat→Bs→Bs→R Bs
 | 0,_,_=>.bad 3
 | _+1,[],_=>.bad 3
 | f+1,c::r,acc=>if c=34#8 then .ok acc r else if c.toNat<32 then .bad 4 else if c=92#8 then match esc (c::r) with
   | .bad e=>.bad e
   | .ok v t=>ptext f t (acc++enc v)
  else if (dec (c::r)).1=65533∧(dec (c::r)).2≤1 then .bad 4 else ptext f ((c::r).drop (dec (c::r)).2) (acc++(c::r).take (dec (c::r)).2)
def text (l:Bs):R Bs:=ptext (l.length+1) l []
def isDig (c:BitVec 8):Bool:=decide (48≤c.toNat∧c.toNat≤57)
def pnum:Nat→Bs→Option (Nat × Bs)
 | n,[]=>some (n,[])
 | n,c::r=>if isDig c=true then if 18446744073709551616≤n*10+(c.toNat-48) then none else pnum (n*10+(c.toNat-48)) r else some (n,c::r)
def number (l:Bs):R Nat:=match pnum 0 l with
 | none=>.bad 2
 | some (n,r)=>if 1<l.length-r.length∧l.head?=some 48#8 then .bad 4 else .ok n r
def plist (pv:Bs→R JT):Nat→Bs→List JT→R JT
 | 0,_,_=>.bad 4
 | f+1,l,acc=>match pv l with
  | .bad e=>.bad e
  | .ok x r=>match blanks r with
   | []=>.bad 4
   | c::r=>if c=44#8 then plist pv f r (acc++[x]) else if c=93#8 then .ok (.mk 5#8 0#64 [] (acc++[x]) []) r else .bad 4
def lists (pv:Bs→R JT) (l:Bs):R JT:=match blanks l with
 | []=>plist pv 1 [] []
 | c::r=>if c=93#8 then .ok (.mk 5#8 0#64 [] [] []) r else plist pv ((c::r).length+1) (c::r) []
def word (l:Bs):R JT :=
 if l.take 4=[110#8,117#8,108#8,108#8] then .ok (.mk 0#8 0#64 [] [] []) (l.drop 4)
 else if l.take 5=[102#8,97#8,108#8,115#8,101#8] then .ok (.mk 1#8 0#64 [] [] []) (l.drop 5)
 else if l.take 4=[116#8,114#8,117#8,101#8] then .ok (.mk 2#8 0#64 [] [] []) (l.drop 4)
 else .bad 23
/-! What is printed. -/
def digs:Nat→Nat→Bs
 | 0,_=>[]
 | f+1,n=>if n<10 then [b8 (48+n)] else digs f (n / 10)++[b8 (48+n % 10)]
def dig (n:Nat):Bs:=digs 20 n
def hexd (n:Nat):BitVec 8:=if n<10 then b8 (48+n) else b8 (87+n)
def qr (r:Nat):Bs:=if r=34∨r=92 then [92#8,b8 r] else if r=10 then [92#8,110#8] else if r=9 then [92#8,116#8] else if r=13 then [92#8,114#8] else if r<32 then [92#8,117#8,48#8,48#8,hexd (r / 16),hexd (r % 16)] else enc r
def quoteF:Nat→Bs→Bs
 | 0,_=>[]
 | n+1,l=>if l=[] then [] else qr (dec l).1++quoteF n (l.drop (dec l).2)
def quote (l:Bs):Bs:=34#8::(quoteF l.length l++[34#8])
def putL (pv:JT→Bs):List JT→Bs
 | []=>[]
 | [x]=>pv x
 | x::r=>pv x++44#8::putL pv r
def putO (pv:JT→Bs):List Bs→List JT→Bs
 | s::_,[x]=>quote s++58#8::pv x
 | s::ns,x::r=>quote s++58#8::(pv x++44#8::putO pv ns r)
 | _,_=>[]
def put1 (pl:List JT→Bs) (po:List Bs→List JT→Bs) (v:JT):Bs :=
 if v.k=0#8 then [110#8,117#8,108#8,108#8] else if v.k=1#8 then [102#8,97#8,108#8,115#8,101#8] else if v.k=2#8 then [116#8,114#8,117#8,101#8]
 else if v.k=3#8 then dig v.n.toNat else if v.k=4#8 then quote v.s else if v.k=5#8 then 91#8::(pl v.l++[93#8]) else 123#8::(po v.ns v.l++[125#8])
def put:Nat→JT→Bs
 | 0=>put1 (fun _=>[]) (fun _ _=>[])
 | d+1=>put1 (putL (put d)) (putO (put d))
def leaf (v:JT):Prop:=v.l=[]∧v.ns=[]∧(v.k=3#8∨v.n=0#64)∧(v.k=4#8∨v.s=[])∧v.k.toNat≤4∧Utf v.s
def norm:Nat→JT→Prop
 | 0,v=>leaf v
 | d+1,v=>leaf v∨(v.n=0#64∧v.s=[]∧(∀ x∈v.l,norm d x)∧((v.k=5#8∧v.ns=[])∨(v.k=6#8∧v.ns.length=v.l.length∧v.ns.Nodup∧∀ s∈v.ns,Utf s)))
end Js
end
section
namespace Js
open Sha

theorem quoteF_of:∀ (rs:List Nat) (n:Nat),(∀ r∈rs,scal r)→rs.length≤n→quoteF n (rs.flatMap enc)=rs.flatMap qr
 | [],0,_,_=>rfl
 | [],n+1,_,_=>rfl
 | r::rs,0,_,h=>by simp at h
 | r::rs,n+1,h,hn=>by
  have hr:=h r (List.mem_cons_self ..)
  rw [List.flatMap_cons,List.flatMap_cons]
  unfold quoteF
  rw [if_neg (by simp [enc_ne r]),dec_enc hr,List.drop_left]
  rw [quoteF_of rs n (fun r hr=>h r (List.mem_cons_of_mem _ hr)) (by simpa using hn)]
theorem len_rs:∀ rs:List Nat,rs.length≤(rs.flatMap enc).length
 | []=>Nat.le_refl _
 | r::rs=>by
  have:=len_rs rs
  have:=enc_pos r
  rw [List.flatMap_cons,List.length_append,List.length_cons]
  omega
theorem quote_of {rs:List Nat} (h:∀ r∈rs,scal r):quote (rs.flatMap enc)=34#8::(rs.flatMap qr++[34#8]):=by
 unfold quote
 rw [quoteF_of rs _ h (len_rs rs)]
theorem qr_pos (r:Nat):0<(qr r).length:=by
 unfold qr
 repeat' split
 all_goals first|exact enc_pos r|simp
/-! Numbers. -/
theorem digs_ne:∀ (f n:Nat),0<f→digs f n≠[]
 | 0,_,h=>absurd h (by omega)
 | f+1,n,_=>by
  unfold digs
  split <;> simp
theorem digs_len:∀ (f n k:Nat),n<10 ^ k→0<k→(digs f n).length≤k
 | 0,_,_,_,_=>by simp [digs]
 | f+1,n,k,h,hk=>by
  unfold digs
  split
  ·rw [List.length_singleton]; omega
  ·rename_i hn
   have h1:1<k:=by rcases k with _|_|k; omega; simp at h; omega; omega
   obtain ⟨j,rfl⟩:∃ j,k=j+1:=⟨k-1,by omega⟩
   have:=digs_len f (n / 10) j (by rw [Nat.pow_succ] at h; omega) (by omega)
   rw [List.length_append,List.length_singleton]
   omega
end Js
end
section
namespace Js
open Sha

theorem putL_cons (pv:JT→Bs) (x:JT) (l:List JT) (h:l≠[]):putL pv (x::l)=pv x++44#8::putL pv l:=by
 cases l with
 | nil=>exact absurd rfl h
 | cons y l=>rfl
theorem putO_cons (pv:JT→Bs) (s:Bs) (ns:List Bs) (x:JT) (l:List JT) (h:l≠[]):putO pv (s::ns) (x::l)=quote s++58#8::(pv x++44#8::putO pv ns l):=by
 cases l with
 | nil=>exact absurd rfl h
 | cons y l=>rfl
theorem put_leaf {d:Nat} {v:JT} (h:leaf v):put d v=put1 (fun _=>[]) (fun _ _=>[]) v:=by
 obtain ⟨_,_,_,_,h5,_⟩:=h
 have:v.k=0#8∨v.k=1#8∨v.k=2#8∨v.k=3#8∨v.k=4#8:=by
  have h2:v.k.toNat=0∨v.k.toNat=1∨v.k.toNat=2∨v.k.toNat=3∨v.k.toNat=4:=by omega
  rcases h2 with h|h|h|h|h
  ·exact .inl (BitVec.eq_of_toNat_eq h)
  ·exact .inr (.inl (BitVec.eq_of_toNat_eq h))
  ·exact .inr (.inr (.inl (BitVec.eq_of_toNat_eq h)))
  ·exact .inr (.inr (.inr (.inl (BitVec.eq_of_toNat_eq h))))
  ·exact .inr (.inr (.inr (.inr (BitVec.eq_of_toNat_eq h))))
 cases d with
 | zero=>rfl
 | succ d =>
  show put1 _ _ v=_
  unfold put1
  rcases this with h|h|h|h|h <;> (simp only [h]; rfl)
/-! What was printed. -/
end Js
end
section
namespace Js
open Sha

theorem size_U8 (s:Bs):(⟨(U8 s).toArray⟩:ByteArray).size=s.length:=by simp [ByteArray.size]
theorem get_U8 (s:Bs) (i:Nat):((⟨(U8 s).toArray⟩:ByteArray).get! i).toNat=(L s i).toNat:=by
 show (((U8 s).toArray)[i]!).toNat=_
 by_cases h:i<s.length
 ·rw [getElem!_pos _ _ (by simpa using h),L_lt h]
  simp [U8]
 ·rw [getElem!_neg _ _ (by simpa using h),L_ge (by omega)]
  rfl
theorem decode_U8 (s:Bs) (i:Nat):Utf8.decode ⟨(U8 s).toArray⟩ i=dec (s.drop i):=by
 rw [Lib.decode_at,size_U8,get_U8,get_U8,get_U8,get_U8]
 unfold dec
 rw [List.length_drop,L_drop,L_drop,L_drop,L_drop]
 rfl
theorem U8_drop (s:Bs) (k:Nat):(U8 s).drop k=U8 (s.drop k):=by simp [U8,List.map_drop]
theorem U8_app (s t:Bs):U8 (s++t)=U8 s++U8 t:=by simp [U8]
theorem U8_eqnil {s:Bs}:U8 s=[] ↔ s=[]:=by simp [U8]
theorem valid_go:∀ (rs:List Nat) (n:Nat),(∀ r∈rs,scal r)→Lib.validGoD n (U8 (rs.flatMap enc))=true
 | _,0,_=>rfl
 | [],n+1,_=>rfl
 | r::rs,n+1,h=>by
  have hr:=h r (List.mem_cons_self ..)
  have hne:U8 ((r::rs).flatMap enc)≠[]:=by
   intro e
   rw [U8_eqnil,List.flatMap_cons] at e
   exact enc_ne r (List.append_eq_nil_iff.1 e).1
  have hd:Lib.decodeL (U8 ((r::rs).flatMap enc))=(r,(enc r).length):=by
   unfold Lib.decodeL
   rw [decode_U8,List.drop_zero,List.flatMap_cons]
   exact dec_enc hr _
  unfold Lib.validGoD
  rw [if_neg hne,hd,if_neg]
  ·rw [U8_drop,List.flatMap_cons,List.drop_left]
   exact valid_go rs n (fun x hx=>h x (List.mem_cons_of_mem _ hx))
  ·rintro ⟨h1,h2⟩
   dsimp only at h1 h2
   subst h1
   exact absurd h2 (by decide)
theorem valid_U8 {s:Bs} (h:Utf s):Lib.validD (U8 s)=true:=by
 obtain ⟨rs,h1,rfl⟩:=h
 exact valid_go rs _ h1
theorem digs_dec:∀ (f u:Nat),u<10 ^ (f+1)→Lib.decDigits u=U8 (digs (f+1) u)
 | 0,u,h=>by
  rw [Lib.decDigits,dif_pos (by omega)]
  show _=U8 (if u<10 then [b8 (48+u)] else _)
  rw [if_pos (by omega)]; rfl
 | f+1,u,h=>by
  rw [Lib.decDigits]
  show _=U8 (if u<10 then [b8 (48+u)] else digs (f+1) (u / 10)++[b8 (48+u % 10)])
  by_cases hu:u<10
  ·rw [dif_pos hu,if_pos hu]; rfl
  ·rw [dif_neg hu,if_neg hu,digs_dec f (u / 10) (by rw [Nat.pow_succ] at h; omega),U8_app]; rfl
theorem dig_dec {u:Nat} (h:u<18446744073709551616):Lib.decDigits u=U8 (dig u) :=
 digs_dec 19 u (Nat.lt_of_lt_of_le h (by decide))
end Js
end
section
namespace Sx
open Go.RowKit

section
variable {C : Cx}
end
end Sx
end
section
namespace Sx
open Go.RowKit

/-! Names given up: what they stand for. -/
def SC.rz (F:Nat→Bool) (α:Nat→Addr):SC→SC
 | .p i b o=>match F i with|true=>.ptr (some ((α i).add (b+o)))|false=>.p i b o
 | .sl i b o n c=>match F i with|true=>.slc (some ((α i).add (b+o))) n c|false=>.sl i b o n c
 | .sn z i b o n c=>match F i with|true=>.any|false=>.sn z i b o n c
 | .clo f i b o=>match F i with|true=>.any|false=>.clo f i b o
 | .cap f i b o=>match F i with|true=>.any|false=>.cap f i b o
 | .cap2 f i b o j c d=>match F i with|true=>.any|false=>match F j with|true=>.any|false=>.cap2 f i b o j c d
 | .mh i=>match F i with|true=>.any|false=>.mh i
 | .ih i=>match F i with|true=>.any|false=>.ih i
 | x=>x
def SC.raw:SC→SC
 | .p ..=>.any
 | .sl ..=>.any
 | .sn ..=>.any
 | .clo ..=>.any
 | .cap ..=>.any
 | .cap2 ..=>.any
 | .mh _=>.any
 | .ih _=>.any
 | x=>x
def Seg.rz (F:Nat→Bool) (α:Nat→Addr):Seg→Seg
 | .one x=>.one (x.rz F α)
 | .row n f=>.row n (fun j=>(f j).rz F α)
 | .obj m=>.obj m
 | .past w ms=>.past w ms
def rzL (F:Nat→Bool) (α:Nat→Addr):List Seg→List Seg
 | []=>[]
 | x::r=>x.rz F α::rzL F α r
def SA.rz (F:Nat→Bool) (α:Nat→Addr):SA→SA
 | .c x=>.c (x.rz F α)
 | .agg l=>.agg (rzL F α l)
def rzA (F:Nat→Bool) (α:Nat→Addr):List SA→List SA
 | []=>[]
 | x::r=>x.rz F α::rzA F α r
def SV.rz (F:Nat→Bool) (α:Nat→Addr):SV→SV
 | .any=>.any
 | .a x=>.a (x.rz F α)
 | .tup l=>.tup (rzA F α l)
def rzH (F:Nat→Bool) (α:Nat→Addr):List (List Seg)→List (List Seg)
 | []=>[]
 | x::r=>rzL F α x::rzH F α r
theorem flat_rz (F:Nat→Bool) (α:Nat→Addr):∀ l:List Seg,flat (rzL F α l)=(flat l).map (SC.rz F α)
 | []=>rfl
 | .one x::r=>by simp [rzL,Seg.rz,flat,flat_rz F α r]
 | .row n f::r=>by simp [rzL,Seg.rz,flat,flat_rz F α r,Function.comp_def]
 | .obj _::r=>by simp [rzL,Seg.rz,flat,flat_rz F α r]
 | .past _ _::r=>by simp [rzL,Seg.rz,flat,flat_rz F α r]
theorem rzH_eq (F:Nat→Bool) (α:Nat→Addr):∀ h:List (List Seg),rzH F α h=h.map (rzL F α)
 | []=>rfl
 | x::r=>by rw [rzH,rzH_eq F α r]; rfl
theorem rzA_eq (F:Nat→Bool) (α:Nat→Addr):∀ h:List SA,rzA F α h=h.map (SA.rz F α)
 | []=>rfl
 | x::r=>by rw [rzA,rzA_eq F α r]; rfl
theorem rzL_nil {F:Nat→Bool} {α:Nat→Addr} {l:List Seg}:rzL F α l=[] ↔ l=[]:=by cases l <;> simp [rzL]
theorem rzL_obj {F:Nat→Bool} {α:Nat→Addr} {l:List Seg} {m:MapD} (h:rzL F α l=[.obj m]):l=[.obj m]:=by
 cases l with
 | nil=>cases h
 | cons x r =>
  simp only [rzL,List.cons.injEq] at h
  have hr:r=[]:=rzL_nil.1 h.2
  subst hr
  cases x <;> simp [Seg.rz] at h
  obtain ⟨rfl,_⟩:=h; rfl
theorem rzL_past {F:Nat→Bool} {α:Nat→Addr} {l:List Seg} {W:World} {ms:List Nat} (h:rzL F α l=[.past W ms]):l=[.past W ms]:=by
 cases l with
 | nil=>cases h
 | cons x r =>
  simp only [rzL,List.cons.injEq] at h
  have hr:r=[]:=rzL_nil.1 h.2
  subst hr
  cases x <;> simp [Seg.rz] at h
  obtain ⟨⟨rfl,rfl⟩,_⟩:=h; rfl
def Lies (F:Nat→Bool) (α:Nat→Addr) (r:Rho):Prop:=∀ (i B f:Nat),F i=true→r[i]?=some (B,f)→α i=⟨B,f,none⟩
section
variable {F : Nat → Bool} {α : Nat → Addr} {r : Rho}
theorem SC.Is.rz (hα:Lies F α r) {x:SC} {v:Value} (h:x.Is r v):(x.rz F α).Is r v:=by
 cases x <;> simp only [SC.rz]
 case p i b o =>
  cases e:F i
  ·exact h
  ·obtain ⟨B,f,e2,rfl⟩:=h
   show _=Value.pointer (some ((α i).add (b+o)))
   rw [hα i B f e e2,add_none]
 case sl i b o n c =>
  cases e:F i
  ·exact h
  ·obtain ⟨B,f,e2,rfl⟩:=h
   show _=Value.slice (some ((α i).add (b+o))) n c
   rw [hα i B f e e2,add_none]
 case sn z i b o n c=>cases e:F i; exact h; exact SC.Is.one h
 case clo z i b o=>cases e:F i; exact h; exact SC.Is.one h
 case cap z i b o=>cases e:F i; exact h; exact SC.Is.one h
 case cap2 z i b o j c p=>cases e:F i; (cases e':F j; exact h; exact SC.Is.one h); exact SC.Is.one h
 case mh i=>cases e:F i; exact h; exact SC.Is.one h
 case ih i=>cases e:F i; exact h; exact SC.Is.one h
 all_goals exact h
theorem SC.Is.raw {x:SC} {v:Value} (h:x.Is r v):(x.raw).Is [] v:=by
 cases x <;> simp only [SC.raw] <;> first|exact SC.Is.one h|exact h
theorem IsL.rz (hα:Lies F α r) {l:List SC} {vs:List Value} (h:IsL r l vs):IsL r (l.map (SC.rz F α)) vs :=
 ⟨by simpa using h.1,fun j x e=>by
  rw [List.getElem?_map,Option.map_eq_some_iff] at e
  obtain ⟨y,hy,rfl⟩:=e
  obtain ⟨v,e1,e2⟩:=h.2 j y hy
  exact ⟨v,e1,e2.rz hα⟩⟩
theorem SA.Is.rz (hα:Lies F α r) {x:SA} {v:Value} (h:x.Is r v):(x.rz F α).Is r v:=by
 cases x with
 | c x=>exact SC.Is.rz hα (x:=x) h
 | agg l =>
  obtain ⟨vs,e,h⟩:=h
  exact ⟨vs,e,by rw [flat_rz]; exact h.rz hα⟩
theorem SV.Is.rz (hα:Lies F α r) {x:SV} {v:Value} (h:x.Is r v):(x.rz F α).Is r v:=by
 cases x with
 | any=>trivial
 | a x=>exact SA.Is.rz hα (x:=x) h
 | tup l =>
  obtain ⟨vs,e,hl,h⟩:=h
  refine ⟨vs,e,by rw [rzA_eq]; simpa using hl,fun j x ex=>?_⟩
  rw [rzA_eq,List.getElem?_map,Option.map_eq_some_iff] at ex
  obtain ⟨y,hy,rfl⟩:=ex
  obtain ⟨u,e1,e2⟩:=h j y hy
  exact ⟨u,e1,e2.rz hα⟩
theorem IsAs.rz (hα:Lies F α r) {l:List SA} {vs:List Value} (h:IsAs r l vs):IsAs r (rzA F α l) vs:=by
 refine ⟨by rw [rzA_eq]; simpa using h.1,fun j x ex=>?_⟩
 rw [rzA_eq,List.getElem?_map,Option.map_eq_some_iff] at ex
 obtain ⟨y,hy,rfl⟩:=ex
 obtain ⟨u,e1,e2⟩:=h.2 j y hy
 exact ⟨u,e1,e2.rz hα⟩
theorem At.rz (hα:Lies F α r) {z:Bool} {w:World} {B off:Nat} {l:List SC} (h:At z r w B off l):At z r w B off (l.map (SC.rz F α)):=by
 intro j x e
 rw [List.getElem?_map,Option.map_eq_some_iff] at e
 obtain ⟨y,hy,rfl⟩:=e
 obtain ⟨v,e1,e2,e3⟩:=h j y hy
 exact ⟨v,e1,e2.rz hα,e3⟩
theorem At.im {z:Bool} {w:World} {B off:Nat} {l:List SC} (h:At z r w B off l) {ms:List Nat} (hB:B<w.heap.size) (hm:B ∉ ms):ImAt w ms ⟨B,off,none⟩ (l.map SC.raw) :=
 ⟨rfl,hB,hm,fun j x e=>by
  rw [List.getElem?_map,Option.map_eq_some_iff] at e
  obtain ⟨y,hy,rfl⟩:=e
  obtain ⟨v,e1,e2,_⟩:=h j y hy
  exact ⟨v,e1,e2.raw⟩⟩
end
section
variable {C : Cx}
theorem HeapOk.rz {F:Nat→Bool} {α:Nat→Addr} {h:List (List Seg)} {r:Rho} {w:World} (ok:HeapOk C h r w) (hα:Lies F α r):HeapOk C (rzH F α h) r w:=by
 have get:∀ (i:Nat) (ch:List Seg),(rzH F α h)[i]?=some ch→∃ c,h[i]?=some c∧ch=rzL F α c:=fun i ch e=>by
  rw [rzH_eq,List.getElem?_map,Option.map_eq_some_iff] at e
  obtain ⟨c,h1,h2⟩:=e
  exact ⟨c,h1,h2.symm⟩
 refine ⟨ok.ext,ok.agree,ok.rol,by rw [rzH_eq,List.length_map]; exact ok.len,fun i ch B f hi hr=>?_,ok.lt,ok.own,ok.ros,fun i ch ho hl hi=>?_,fun i j B f f' ch ch' hij o1 o2 hi hj hri hrj=>?_,fun i m B f ho hi hr=>?_,fun i W ms hi=>?_⟩
 ·obtain ⟨c,h1,rfl⟩:=get i ch hi
  rw [flat_rz]
  exact (ok.chunks i c B f h1 hr).rz hα
 ·obtain ⟨c,h1,rfl⟩:=get i ch hi
  rw [flat_rz,ok.dead i c ho hl h1]; rfl
 ·obtain ⟨c,h1,rfl⟩:=get i ch hi
  obtain ⟨c',h1',rfl⟩:=get j ch' hj
  rcases ok.apart i j B f f' c c' hij o1 o2 h1 h1' hri hrj with h|h
  ·left; rw [h]; rfl
  ·right; rw [h]; rfl
 ·obtain ⟨c,h1,h2⟩:=get i _ hi
  exact ok.maps i m B f ho (by rw [h1,rzL_obj h2.symm]) hr
 ·obtain ⟨c,h1,h2⟩:=get i _ hi
  exact ok.past i W ms (by rw [h1,rzL_past h2.symm])
theorem HeapOk.setPast {h:List (List Seg)} {r:Rho} {w:World} (ok:HeapOk C h r w) {i0:Nat} (hi0:i0<C.ro) {W:World} {ms:List Nat} (hp:h[i0]?=some [.past W ms]) {W':World} {ms':List Nat} (p1:Ext ms' W' w)
  (p2:∀ B,B<C.w0.heap.size→B<W'.heap.size→B ∉ ms'→C.safe B) (p3:∀ (j B f:Nat),C.ro≤j→r[j]?=some (B,f)→B<W'.heap.size→B∈ms'):HeapOk C (h.set i0 [.past W' ms']) r w:=by
 have hil:i0<h.length:=(List.getElem?_eq_some_iff.1 hp).1
 have get:∀ (i:Nat) (ch:List Seg),(h.set i0 [.past W' ms'])[i]?=some ch→(i=i0∧ch=[.past W' ms'])∨(i≠i0∧h[i]?=some ch):=fun i ch e=>by
  by_cases hi:i0=i
  ·subst hi
   rw [List.getElem?_set_self hil] at e
   injection e with e
   exact .inl ⟨rfl,e.symm⟩
  ·rw [List.getElem?_set_ne hi] at e
   exact .inr ⟨fun e=>hi e.symm,e⟩
 refine ⟨ok.ext,ok.agree,ok.rol,by rw [List.length_set]; exact ok.len,fun i ch B f hi hr=>?_,ok.lt,ok.own,ok.ros,fun i ch ho hl hi=>?_,fun i j B f f' ch ch' hij o1 o2 hi hj hri hrj=>?_,fun i m B f ho hi hr=>?_,fun i W2 ms2 hi=>?_⟩
 ·rcases get i ch hi with ⟨_,rfl⟩|⟨_,e⟩
  ·intro j x e; simp [flat] at e
  ·exact ok.chunks i ch B f e hr
 ·rcases get i ch hi with ⟨_,rfl⟩|⟨_,e⟩
  ·rfl
  ·exact ok.dead i ch ho hl e
 ·rcases get i ch hi with ⟨rfl,_⟩|⟨_,e⟩
  ·omega
  rcases get j ch' hj with ⟨rfl,_⟩|⟨_,e'⟩
  ·omega
  exact ok.apart i j B f f' ch ch' hij o1 o2 e e' hri hrj
 ·rcases get i _ hi with ⟨rfl,_⟩|⟨_,e⟩
  ·omega
  ·exact ok.maps i m B f ho e hr
 ·rcases get i _ hi with ⟨_,e⟩|⟨_,e⟩
  ·injection e with e _
   injection e with e1 e2
   subst e1; subst e2
   exact ⟨p1,p2,p3⟩
  ·exact ok.past i W2 ms2 e
theorem back_set (g:Nat→Nat):∀ (q:List Nat) (hs h:List (List Seg)) (i0:Nat) (c:List Seg),i0 ∉ q→i0<h.length→back g q hs (h.set i0 c)=(back g q hs h).set i0 c
 | [],hs,h,i0,c,_,hi=>by
  simp only [back]
  rw [List.set_append_left _ _ hi]
 | i::q,c'::hs,h,i0,c,hn,hi=>by
  simp only [List.mem_cons,not_or] at hn
  simp only [back]
  rw [List.set_comm _ _ hn.1,back_set g q hs _ i0 c hn.2 (by simpa using hi)]
 | _::_,[],h,i0,c,_,_=>rfl
theorem getH_ne {h:List (List Seg)} {i:Nat} {W:World} {ms:List Nat} (e:getH h i=[.past W ms]):h[i]?=some [.past W ms]:=by
 rw [getH_eq] at e
 cases e2:h[i]? with
 | none=>rw [e2] at e; cases e
 | some c=>rw [e2] at e; exact congrArg some e
theorem call_past {qt:Keep} {f:FuncId} {args args0:List SA} {t:List SV} {h:List (List Seg)} {k:SV→List (List Seg)→Prop} {n:Nat} {h0:List (List Seg)} {raw:World→Prop} {Res:SV→List (List Seg)→Prop}
  (hfn:FnR C.P C.T f n h0 args0 raw Res) (i0:Nat) (q:List Nat) (hq:(qOk C.ro n qt (i0::q) h && Nat.blt i0 C.ro && Nat.blt 0 n)=true) {W:World} {ms:List Nat} (hp:getH h i0=[.past W ms])
  (hA:eqAs (i0::q) args args0) (hE:entH (i0::q) h (i0::q) h0 True) (hraw:∀ w,Ext C.m C.w0 w→raw w)
  (hl:∀ x hs,Res x hs→∃ W' ms',getH hs 0=[.past W' ms']∧Later W ms W' ms')
  (hk:∀ x hs,Res x hs→setH h i0 (getH hs 0) fun h=>lenK h 0 fun N=>backK (bk N (i0::q)) ((i0::q).drop n) (hs.drop n) h fun h'=>k (x.mp (bk N (i0::q))) h'):CallVC C qt f #[] args #[] t h k:=by
 intro r a w vs ok ha
 simp only [Bool.and_eq_true] at hq
 obtain ⟨⟨hq,hi0⟩,hn0⟩:=hq
 have hi0:i0<C.ro:=by simpa using (Nat.blt_eq ▸ hi0)
 have hn0:0<n:=by simpa using (Nat.blt_eq ▸ hn0)
 obtain ⟨ok0,pastUp⟩:=call_ok0 hq hE ok.heap
 have hq2:=hq
 simp only [qOk,Bool.and_eq_true] at hq
 obtain ⟨⟨⟨⟨⟨⟨h0',h1⟩,h2⟩,h3⟩,h5⟩,h6⟩,h4⟩:=hq
 have hnq:=ble_le h0'
 have hn:=nodup_spec h1
 have hll:=allLt_spec h2
 have hst:=allNe_spec h3
 have hne:∀ i∈(i0::q).drop n,getH h i≠[]:=fun i hi=>stirs_ne (hst i hi)
 have hwr:=allGe_spec h5
 have hlen:=ok.heap.len
 have hqr:∀ i∈(i0::q),i<r.length:=fun i hi=>by rw [hlen]; exact hll i hi
 have hnot:i0 ∉ (i0::q).drop n:=fun hc=>by have:=hwr i0 hc; omega
 have hp':=getH_ne hp
 have hcall:=hfn w (rn (i0::q) r) vs ok0 (eqAs_spec hqr hA ha) (hraw w ok.heap.ext)
 have hargs:(#[]:Array Value)++vs.toArray++#[]=vs.toArray:=by simp
 rw [hargs]
 refine hcall.mono ?_
 rintro e w' ⟨v,x,hs,r',rfl,hx,hok,hres⟩
 obtain ⟨o1,o2,o3,o4,o5,o6,o7⟩:=ok.heap.back hnq hn hll hne hwr (fun B ⟨i,W,ms,h1,h2,h3⟩=>by
  obtain ⟨j',_,hj'⟩:=pastUp i W ms h1
  exact ⟨j',W,ms,hj',h2,h3⟩) hok
 have hk':=hk x hs hres
 obtain ⟨W',ms',hW,hL⟩:=hl x hs hres
 have hW':=getH_ne hW
 rw [setH_eq,lenK_eq,Nat.zero_add,backK_eq,List.length_set,back_set _ _ _ _ _ _ hnot (by rw [← hlen]; exact hqr i0 (List.mem_cons_self ..))] at hk'
 obtain ⟨p1,p2,p3⟩:=o5 0 W' ms' hW'
 have hb0:=o6 i0 W ms hnot hp'
 have hset:=o1.setPast hi0 hb0 p1 (fun B g1 g2 g3=>by
  obtain ⟨i2,W2,ms2,e1,e2,e3⟩:=p2 B (Nat.lt_of_lt_of_le g1 ok.heap.ext.size) g2 g3
  exact (ok.heap.past i2 W2 ms2 e1).2.1 B g1 e2 e3) p3
 rw [← hW] at hset
 have hil:i0<(back (bk h.length (i0::q)) ((i0::q).drop n) (hs.drop n) h).length:=(List.getElem?_eq_some_iff.1 hb0).1
 refine ⟨v,_,_,_,rfl,hx.mp o3,o2,hset,frm_back hqr hll hst hwr h4 ok.heap hok hnq o4 hset o5 (fun _=>fun i W2 ms2 hi=>?_) (fun i W2 ms2 hi=>?_),hk'⟩
 ·by_cases hii:i0=i
  ·subst hii
   rw [hp'] at hi
   injection hi with hi
   injection hi with hi _
   injection hi with e1 e2
   subst e1; subst e2
   exact ⟨W',ms',by rw [List.getElem?_set_self hil,hW],hL⟩
  ·refine ⟨W2,ms2,?_,Later.refl _ _⟩
   rw [List.getElem?_set_ne hii]
   refine o6 i W2 ms2 (fun hc=>?_) hi
   have:=hst i hc
   rw [getH_eq,hi] at this
   cases this
 ·by_cases hii:i0=i
  ·subst hii
   rw [List.getElem?_set_self hil,hW] at hi
   exact .inr ⟨0,by rw [hW']; exact hi⟩
  ·rw [List.getElem?_set_ne hii] at hi
   exact o7 i W2 ms2 hi
def NoP (hs:List (List Seg)):Prop:=∀ (i:Nat) (W:World) (ms:List Nat),hs[i]?≠some [.past W ms]
theorem NoP.nil:NoP []:=fun i W ms e=>by simp at e
theorem FnR.mono {P:Program} {T:List (Nat × TD)} {f:FuncId} {n:Nat} {h0:List (List Seg)} {args:List SA} {raw:World→Prop} {Res Res':SV→List (List Seg)→Prop} (h:FnR P T f n h0 args raw Res) (k:∀ x hs,Res x hs→Res' x hs):FnR P T f n h0 args raw Res' :=
 fun w r0 vs ok ha hr=>(h w r0 vs ok ha hr).mono fun _ _ ⟨v,x,hs,r',e,h1,h2,h3⟩=>⟨v,x,hs,r',e,h1,h2,k x hs h3⟩
theorem call_lendU {qt:Keep} {f:FuncId} {args:List SA} {t:List SV} {h:List (List Seg)} {k:SV→List (List Seg)→Prop} {n:Nat} {h0:List (List Seg)} {raw:World→Prop} {Res:SV→List (List Seg)→Prop}
  (Z:List Nat) (i0:Nat) (q:List Nat) {W:World} {ms:List Nat} (hq:(qOk C.ro n qt (i0::q) h && Nat.blt i0 C.ro && Nat.blt 0 n && allLt Z h.length && disj ((i0::q).drop n) Z)=true) (hp:getH h i0=[.past W ms])
  (hE:entH (i0::q) h (i0::q) ([.past W ms]::h0) True) (h0np:NoP h0) (hraw:∀ w,Ext C.m C.w0 w→raw w)
  (hfn:∀ (W':World) (ms':List Nat) (α:Nat→Addr),Later W ms W' ms'→(∀ i,memB i Z=true→flat (getH h i)≠[]→ImAt W' ms' (α i) (((flat (getH h i)).map (SC.rz (fun j=>memB j Z) α)).map SC.raw)∧(marksOk=false→Nat.ble C.ro i=true→Unm W' ms' (α i))) →
   ∃ args0,eqAs (i0::q) (rzA (fun j=>memB j Z) α args) args0∧FnR C.P C.T f n ([.past W' ms']::h0) args0 raw Res)
  (hl:∀ x hs,Res x hs→NoP (hs.drop 1))
  (hk:∀ x hs,Res x hs→lenK h 0 fun N=>backK (bk N (i0::q)) ((i0::q).drop n) (hs.drop n) h fun h'=>k (x.mp (bk N (i0::q))) h'):CallVC C qt f #[] args #[] t h k:=by
 intro r a w vs ok ha
 simp only [Bool.and_eq_true] at hq
 obtain ⟨⟨⟨⟨hq,hi0⟩,hn0⟩,hZ⟩,hdz⟩:=hq
 have hi0:i0<C.ro:=by simpa using (Nat.blt_eq ▸ hi0)
 have hn0:0<n:=by simpa using (Nat.blt_eq ▸ hn0)
 have hZ:=allLt_spec hZ
 have hdz:=disj_spec hdz
 obtain ⟨ok0,pastUp⟩:=call_ok0 hq hE ok.heap
 simp only [qOk,Bool.and_eq_true] at hq
 obtain ⟨⟨⟨⟨⟨⟨h0',h1⟩,h2⟩,h3⟩,h5⟩,h6⟩,h4⟩:=hq
 have hnq:=ble_le h0'
 have hn:=nodup_spec h1
 have hll:=allLt_spec h2
 have hst:=allNe_spec h3
 have hne:∀ i∈(i0::q).drop n,getH h i≠[]:=fun i hi=>stirs_ne (hst i hi)
 have hwr:=allGe_spec h5
 have hlen:=ok.heap.len
 have hqr:∀ i∈(i0::q),i<r.length:=fun i hi=>by rw [hlen]; exact hll i hi
 have hp':=getH_ne hp
 have hqs:∀ i∈(i0::q).drop n,i∈(i0::q):=fun i hi=>List.mem_of_mem_drop hi
 have hm':∀ B,B∈((rn (i0::q) r).drop n).map (·.1)→∃ i,i∈(i0::q).drop n∧∃ f,r[i]?=some (B,f):=by
  intro B hB
  obtain ⟨k,f,hk,e⟩:=mem_drop.1 hB
  cases hqk:(i0::q)[k]? with
  | none=>rw [rn,List.getElem?_map,hqk] at e; cases e
  | some j =>
   rw [rn_get hqr hqk] at e
   exact ⟨j,List.mem_of_getElem? (i:=k-n) (by rw [List.getElem?_drop,show n+(k-n)=k by omega]; exact hqk),f,e⟩
 have hhi:∀ i,i<h.length→h[i]?=some (getH h i):=fun i hi=>by rw [getH_eq,List.getElem?_eq_getElem hi]; rfl
 obtain ⟨ms',hms'⟩:∃ l,((rn (i0::q) r).drop n).map (·.1)=l:=⟨_,rfl⟩
 have hL:Later W ms w ms':=⟨(ok.heap.past i0 W ms hp').1,fun B h1 h2 hc=>by
  rw [← hms'] at hc
  obtain ⟨i,hi,f,e⟩:=hm' B hc
  exact h2 ((ok.heap.past i0 W ms hp').2.2 i B f (hwr i hi) e h1)⟩
 let α:Nat→Addr:=fun i=>match r[i]? with
  | some (B,f)=>⟨B,f,none⟩
  | none=>⟨0,0,none⟩
 have hα:Lies (fun j=>memB j Z) α r:=fun i B f _ e=>by simp only [α,e]
 obtain ⟨args0,hA,hf⟩:=hfn w ms' α hL (fun i hi hfl=>by
  have hi:=memB_iff.1 hi
  have hil:=hZ i hi
  obtain ⟨⟨B,f⟩,hr⟩:∃ x,r[i]?=some x:=⟨_,List.getElem?_eq_getElem (by rw [hlen]; exact hil)⟩
  have hAt:=(ok.heap.chunk hr).rz hα
  have e:α i=⟨B,f,none⟩:=by simp only [α,hr]
  rw [e]
  have hnin:B ∉ ms':=fun hc=>by
   rw [← hms'] at hc
   obtain ⟨j,hj,f',hr'⟩:=hm' B hc
   have hij:i≠j:=fun e=>hdz i hi (e ▸ hj)
   exact hfl (ok.heap.sep hij (hwr j hj) (hhi i hil) (hhi j (hll j (hqs j hj))) hr hr' (hne j hj))
  refine ⟨hAt.im ((ok.heap.chunk hr).lt hfl) hnin,fun hmk hro=>?_⟩
  obtain ⟨x,hx⟩:∃ x,(flat (getH h i))[0]?=some x:=⟨_,List.getElem?_eq_getElem (List.length_pos_iff.2 hfl)⟩
  obtain ⟨v,e1,_,e3⟩:=ok.heap.chunk hr 0 x hx
  exact (e3 hro).unm hmk (by rw [Nat.add_zero] at e1; exact e1) hnin)
 have ok1:HeapOk (cx0 C.P C.T w (rn (i0::q) r) n ([.past w ms']::h0)) ([.past w ms']::h0) (rn (i0::q) r) w:=by
  refine ⟨ok0.ext,ok0.agree,ok0.rol,ok0.len,fun i ch B f hi hr=>?_,ok0.lt,ok0.own,fun i B f ho hlv hr=>?_,fun i ch ho hlv hi=>?_,fun i j B f f' ch ch' hij o1 o2 hi hj hri hrj=>?_,fun i m B f ho hi hr=>?_,fun i W2 ms2 hi=>?_⟩
  ·cases i with
   | zero=>simp at hi; subst hi; intro j x e; simp [flat] at e
   | succ i=>exact ok0.chunks (i+1) ch B f (by simpa using hi) hr
  ·refine ok0.ros i B f ho ?_ hr
   cases i with
   | zero=>exact absurd rfl hlv
   | succ i=>exact hlv
  ·refine (?_:flat ch=[])
   cases i with
   | zero=>simp at hi; subst hi; rfl
   | succ i=>exact ok0.dead (i+1) ch ho (fun hc=>hlv hc) (by simpa using hi)
  ·have o1:n≤i:=o1
   have o2:n≤j:=o2
   refine ok0.apart i j B f f' ch ch' hij o1 o2 ?_ ?_ hri hrj
   ·cases i with
    | zero=>omega
    | succ i=>simpa using hi
   ·cases j with
    | zero=>omega
    | succ j=>simpa using hj
  ·have o1:n≤i:=ho
   refine ok0.maps i m B f ho ?_ hr
   cases i with
   | zero=>omega
   | succ i=>simpa using hi
  ·cases i with
   | zero =>
    simp at hi
    obtain ⟨rfl,rfl⟩:=hi
    refine ⟨Ext.refl _ _,fun B _ h2 h3=>⟨0,_,_,rfl,h2,h3⟩,fun j B f ho hr _=>?_⟩
    rw [← hms']
    exact mem_drop.2 ⟨j,f,ho,hr⟩
   | succ i=>exact absurd (by simpa using hi) (h0np i W2 ms2)
 have hcall:=hf w (rn (i0::q) r) vs ok1 (eqAs_spec hqr hA (ha.rz hα)) (hraw w ok.heap.ext)
 have hargs:(#[]:Array Value)++vs.toArray++#[]=vs.toArray:=by simp
 rw [hargs]
 refine hcall.mono ?_
 rintro e w' ⟨v,x,hs,r',rfl,hx,hok,hres⟩
 have hlen':r'.length=hs.length:=hok.len
 have hql:(rn (i0::q) r).length≤r'.length:=hok.rlen
 have hqlen:(rn (i0::q) r).length=q.length+1:=by simp [rn]
 obtain ⟨c,hs',rfl⟩:∃ c hs',hs=c::hs':=by
  cases hs with
  | nil=>rw [List.length_nil] at hlen'; omega
  | cons c hs'=>exact ⟨c,hs',rfl⟩
 have hnp:NoP hs':=hl x _ hres
 have hok2:HeapOk ⟨C.P,C.T,w,((rn (i0::q) r).drop n).map (·.1),rn (i0::q) r,n,fun i=>flat (getH ([.past w ms']::h0) i)≠[],fun _=>False⟩ ([]::hs') r' w':=by
  refine ⟨hok.ext,hok.agree,hok.rol,hok.len,fun i ch B f hi hr=>?_,hok.lt,hok.own,hok.ros,fun i ch ho hlv hi=>?_,fun i j B f f' ch ch' hij o1 o2 hi hj hri hrj=>?_,fun i m B f ho hi hr=>?_,fun i W2 ms2 hi=>?_⟩
  ·cases i with
   | zero=>simp at hi; subst hi; intro j x e; simp [flat] at e
   | succ i=>exact hok.chunks (i+1) ch B f (by simpa using hi) hr
  ·cases i with
   | zero=>simp at hi; subst hi; rfl
   | succ i=>exact hok.dead (i+1) ch ho hlv (by simpa using hi)
  ·have o1:n≤i:=o1
   have o2:n≤j:=o2
   refine hok.apart i j B f f' ch ch' hij o1 o2 ?_ ?_ hri hrj
   ·cases i with
    | zero=>omega
    | succ i=>simpa using hi
   ·cases j with
    | zero=>omega
    | succ j=>simpa using hj
  ·have o1:n≤i:=ho
   refine hok.maps i m B f ho ?_ hr
   cases i with
   | zero=>omega
   | succ i=>simpa using hi
  ·cases i with
   | zero=>simp at hi
   | succ i=>exact absurd (by simpa using hi) (hnp i W2 ms2)
 obtain ⟨o1,o2,o3,o4,o5,o6,o7⟩:=ok.heap.back hnq hn hll hne hwr (fun B hB=>hB.elim) hok2
 have hk':=hk x _ hres
 obtain ⟨n',rfl⟩:∃ n',n=n'+1:=⟨n-1,by omega⟩
 rw [lenK_eq,Nat.zero_add,backK_eq] at hk'
 exact ⟨v,_,_,_,rfl,hx.mp o3,o2,o1,frm_back hqr hll hst hwr h4 ok.heap hok2 hnq o4 o1 o5 (fun _=>.of fun i W ms hi=>o6 i W ms (fun hc=>by
  have:=hst i hc
  rw [getH_eq,hi] at this
  cases this) hi) o7,hk'⟩
/-! Functions that give up what they made. -/
theorem call_lend {qt:Keep} {f:FuncId} {args:List SA} {t:List SV} {h:List (List Seg)} {k:SV→List (List Seg)→Prop} {n:Nat} {h0:List (List Seg)} {raw:World→Prop} {Res:SV→List (List Seg)→Prop}
  (Z:List Nat) (i0:Nat) (q:List Nat) {W:World} {ms:List Nat} (hq:(qOk C.ro n qt (i0::q) h && Nat.blt i0 C.ro && Nat.blt 0 n && allLt Z h.length && disj ((i0::q).drop n) Z)=true) (hp:getH h i0=[.past W ms])
  (hE:entH (i0::q) h (i0::q) ([.past W ms]::h0) True) (h0np:NoP h0) (hraw:∀ w,Ext C.m C.w0 w→raw w)
  (hfn:∀ (W':World) (ms':List Nat) (α:Nat→Addr),Later W ms W' ms'→(∀ i,memB i Z=true→flat (getH h i)≠[]→ImAt W' ms' (α i) (((flat (getH h i)).map (SC.rz (fun j=>memB j Z) α)).map SC.raw)) →
   ∃ args0,eqAs (i0::q) (rzA (fun j=>memB j Z) α args) args0∧FnR C.P C.T f n ([.past W' ms']::h0) args0 raw Res)
  (hl:∀ x hs,Res x hs→NoP (hs.drop 1))
  (hk:∀ x hs,Res x hs→lenK h 0 fun N=>backK (bk N (i0::q)) ((i0::q).drop n) (hs.drop n) h fun h'=>k (x.mp (bk N (i0::q))) h'):CallVC C qt f #[] args #[] t h k:=by
 exact call_lendU Z i0 q hq hp hE h0np hraw (fun W' ms' α hL hI=>hfn W' ms' α hL fun i hi hf=>(hI i hi hf).1) hl hk
def FinW (C:Cx) (v:SV) (h:List (List Seg)) (Res:SV→List (List Seg)→Prop):Prop:=∀ (r:Rho) (w:World) (u:Value),HeapOk C h r w→v.Is r u→∃ x hs r',SV.Is r' x u∧HeapOk C hs r' w∧Res x hs
theorem FinW.of {v:SV} {h:List (List Seg)} {Res:SV→List (List Seg)→Prop} (k:∃ x hs,Fin C v h x hs∧Res x hs):FinW C v h Res:=fun r w u ok hu=>by
 obtain ⟨x,hs,hf,hr⟩:=k
 obtain ⟨r',h1,h2⟩:=hf.ok hu ok
 exact ⟨x,hs,r',h1,h2,hr⟩
theorem fn_of_bodyW {P:Program} {T:List (Nat × TD)} (hT:AllT P T) (hm:P.follows .mixedOrders=true) {f:FuncId} {fn:Func} {c:Code} (hf:P.funcs[f]?=some fn) (hb:fn.body=some c) {n:Nat} {h0:List (List Seg)} {args:List SA} {raw:World→Prop} {Res:SV→List (List Seg)→Prop}
  {t:List SV} (ht:t=args.map SV.a++anys (fn.ntmps-args.length))
  (h:∀ (w:World) (r0:Rho),r0.length=h0.length→raw w→Body (cx0 P T w r0 n h0) fn c ⟨t,h0⟩ fun v h'=>FinW (cx0 P T w r0 n h0) v h' Res):FnR P T f n h0 args raw Res:=by
 intro w r0 vs ok ha hraw
 subst ht
 have hlen:vs.toArray.size=args.length:=by rw [ha.1]; simp
 refine calls_of_body (C:=cx0 P T w r0 n h0) hT hm hf hb (s:=⟨args.map SV.a++anys (fn.ntmps-args.length),h0⟩) (r:=r0) ⟨ok,?_,fun d x e=>?_,rfl⟩ (h w r0 ok.len hraw) ?_
 ·simp [anys_len,ha.1]
 ·by_cases hd:d<args.length
  ·rw [List.getElem?_append_left (by simpa using hd),List.getElem?_map] at e
   obtain ⟨y,hy,rfl⟩:=Option.map_eq_some_iff.1 e
   obtain ⟨u,hu,hi⟩:=ha.2 d y hy
   have:(vs.toArray++Array.replicate (fn.ntmps-vs.toArray.size) undef).getD d undef=u:=by
    rw [Array.getD_eq_getD_getElem?,Array.getElem?_append_left (by rw [hlen]; exact hd)]
    simp [hu]
   rw [this]
   exact hi
  ·rw [List.getElem?_append_right (by simpa using Nat.le_of_not_lt hd)] at e
   rw [anys_get _ _ _ e]
   trivial
 ·rintro v y h' r' w' hfin hy hok
  obtain ⟨x,hs,r'',hx,hok',hr⟩:=hfin r' w' v hok hy
  exact ⟨v,x,hs,r'',rfl,hx,hok',hr⟩
theorem finW_frzU {v:SV} {h:List (List Seg)} {Res:SV→List (List Seg)→Prop} (q:List Nat) {W:World} {ms:List Nat} (hp:getH h 0=[.past W ms]) (hro:0<C.ro) (hm:∀ B∈C.m,∃ (j f:Nat),C.ro≤j∧C.r0[j]?=some (B,f))
  (hq:(pref C.r0.length 0 q && allLt q h.length && allNe h (q.drop C.ro) && allGe C.ro (q.drop C.ro))=true)
  (hk:∀ (W':World) (ms':List Nat) (α:Nat→Addr),Later W ms W' ms'→(∀ i,(Nat.blt i h.length && Nat.ble C.ro i && !memB i q)=true→flat (getH h i)≠[]→ImAt W' ms' (α i) (((flat (getH h i)).map (SC.rz (fun j=>!memB j q) α)).map SC.raw)∧(marksOk=false→Unm W' ms' (α i))) →
   ∃ x hs,Ent C q ⟨[v.rz (fun j=>!memB j q) α],rzH (fun j=>!memB j q) α h⟩ ⟨[x],[.past W ms]::hs⟩∧Res x ([.past W' ms']::hs)):FinW C v h Res:=by
 intro r w u ok hu
 simp only [Bool.and_eq_true] at hq
 obtain ⟨⟨⟨hpf,hq1⟩,hq2⟩,hq3⟩:=hq
 have hll:=allLt_spec hq1
 have hst:=allNe_spec hq2
 have hge:=allGe_spec hq3
 have hlen:=ok.len
 have hp':=getH_ne hp
 have hqr:∀ i∈q,i<r.length:=fun i hi=>by rw [hlen]; exact hll i hi
 let α:Nat→Addr:=fun i=>match r[i]? with
  | some (B,f)=>⟨B,f,none⟩
  | none=>⟨0,0,none⟩
 have hα:Lies (fun j=>!memB j q) α r:=fun i B f _ e=>by simp only [α,e]
 classical
 obtain ⟨ms',hms'⟩:∃ l,((rn q r).drop C.ro).map (·.1)++(List.range C.w0.heap.size).filter (fun B=>decide (¬ C.safe B))=l:=⟨_,rfl⟩
 have look:∀ (i B f:Nat),C.ro≤i→(rn q r)[i]?=some (B,f)→∃ j,j∈q.drop C.ro∧r[j]?=some (B,f):=by
  intro i B f hi e
  cases hqi:q[i]? with
  | none=>rw [rn,List.getElem?_map,hqi] at e; cases e
  | some j=>exact ⟨j,List.mem_of_getElem? (i:=i-C.ro) (by rw [List.getElem?_drop,show C.ro+(i-C.ro)=i by omega]; exact hqi),by rw [← rn_get hqr hqi]; exact e⟩
 have inms:∀ B,B∈ms'→(∃ j,j∈q.drop C.ro∧∃ f,r[j]?=some (B,f))∨(B<C.w0.heap.size∧¬ C.safe B):=by
  intro B hB
  rw [← hms'] at hB
  rcases List.mem_append.1 hB with hB|hB
  ·obtain ⟨i,f,hi,e⟩:=mem_drop.1 hB
   obtain ⟨j,hj,e2⟩:=look i B f hi e
   exact .inl ⟨j,hj,f,e2⟩
  ·simp only [List.mem_filter,List.mem_range,decide_eq_true_eq] at hB
   exact .inr hB
 have hhi:∀ i,i<h.length→h[i]?=some (getH h i):=fun i hi=>by rw [getH_eq,List.getElem?_eq_getElem hi]; rfl
 have hqs:∀ i∈q.drop C.ro,i∈q:=fun i hi=>List.mem_of_mem_drop hi
 obtain ⟨p1,p2,p3⟩:=ok.past 0 W ms hp'
 have hL:Later W ms w ms':=⟨p1,fun B h1 h2 hc=>by
  rcases inms B hc with ⟨j,hj,f,e⟩|⟨h3,h4⟩
  ·exact h2 (p3 j B f (hge j hj) e h1)
  ·exact h4 (p2 B h3 h1 h2)⟩
 have facts:∀ i,i<h.length→C.ro≤i→memB i q=false→flat (getH h i)≠[]→ImAt w ms' (α i) (((flat (getH h i)).map (SC.rz (fun j=>!memB j q) α)).map SC.raw)∧(marksOk=false→Unm w ms' (α i)):=by
  intro i hil hio hiq hfl
  have hnq:i ∉ q:=fun hc=>by rw [memB_iff.2 hc] at hiq; cases hiq
  obtain ⟨⟨B,f⟩,hr⟩:∃ x,r[i]?=some x:=⟨_,List.getElem?_eq_getElem (by rw [hlen]; exact hil)⟩
  have hAt:=(ok.chunk hr).rz hα
  have e:α i=⟨B,f,none⟩:=by simp only [α,hr]
  rw [e]
  have clash:∀ j,j∈q.drop C.ro→∀ f',r[j]?≠some (B,f'):=by
   intro j hj f' hr'
   have hij:i≠j:=fun e=>hnq (e ▸ hqs j hj)
   rcases ok.apart i j B f f' _ _ hij hio (hge j hj) (hhi i hil) (hhi j (hll j (hqs j hj))) hr hr' with h|h
   ·rw [h] at hfl; exact hfl rfl
   ·exact stirs_ne (hst j hj) h
  have hnin:B ∉ ms':=by
   intro hc
   rcases inms B hc with ⟨j,hj,f',hr'⟩|⟨h3,h4⟩
   ·exact clash j hj f' hr'
   ·rcases ok.own i B f hio hr with hB|hB
    ·obtain ⟨j,f',hj,e0⟩:=hm B hB
     have hjl:j<C.r0.length:=by
      rcases Nat.lt_or_ge j C.r0.length with h|h
      ·exact h
      ·rw [List.getElem?_eq_none h] at e0; cases e0
     have hqj:=pref_spec hpf j hjl
     rw [Nat.zero_add] at hqj
     exact clash j (List.mem_of_getElem? (i:=j-C.ro) (by rw [List.getElem?_drop,show C.ro+(j-C.ro)=j by omega]; exact hqj)) f' (ok.agree j _ e0)
    ·omega
  refine ⟨hAt.im ((ok.chunk hr).lt hfl) hnin,fun hmk=>?_⟩
  obtain ⟨x,hx⟩:∃ x,(flat (getH h i))[0]?=some x:=⟨_,List.getElem?_eq_getElem (List.length_pos_iff.2 hfl)⟩
  obtain ⟨v,e1,_,e3⟩:=ok.chunk hr 0 x hx
  exact (e3 (le_ble hio)).unm hmk (by rw [Nat.add_zero] at e1; exact e1) hnin
 obtain ⟨x,hs,hent,hres⟩:=hk w ms' α hL (fun i hi hf=>by
  simp only [Bool.and_eq_true,Bool.not_eq_true'] at hi
  exact facts i (by simpa using (Nat.blt_eq ▸ hi.1.1)) (ble_le hi.1.2) hi.2 hf)
 have ok1:Ok C ⟨[v.rz (fun j=>!memB j q) α],rzH (fun j=>!memB j q) α h⟩ r { tmps:=#[u],defers:=[] } w:=⟨ok.rz hα,rfl,fun d y e=>by
  cases d with
  | zero=>simp at e; subst e; exact hu.rz hα
  | succ d=>simp at e,rfl⟩
 have ok2:=hent.okN ok1
 have ok3:=ok2.heap.setPast (i0:=0) hro rfl (W':=w) (ms':=ms') (Ext.refl _ _) (fun B h1 h2 h3=>Classical.byContradiction fun hc=>h3 (by
  rw [← hms']
  exact List.mem_append.2 (.inr (by simp only [List.mem_filter,List.mem_range,decide_eq_true_eq]; exact ⟨h1,hc⟩)))) (fun j B f ho e _=>by
  rw [← hms']
  exact List.mem_append.2 (.inl (mem_drop.2 ⟨j,f,ho,e⟩)))
 exact ⟨x,_,_,ok2.slots 0 x rfl,ok3,hres⟩
theorem finW_frz {v:SV} {h:List (List Seg)} {Res:SV→List (List Seg)→Prop} (q:List Nat) {W:World} {ms:List Nat} (hp:getH h 0=[.past W ms]) (hro:0<C.ro) (hm:∀ B∈C.m,∃ (j f:Nat),C.ro≤j∧C.r0[j]?=some (B,f))
  (hq:(pref C.r0.length 0 q && allLt q h.length && allNe h (q.drop C.ro) && allGe C.ro (q.drop C.ro))=true)
  (hk:∀ (W':World) (ms':List Nat) (α:Nat→Addr),Later W ms W' ms'→(∀ i,(Nat.blt i h.length && Nat.ble C.ro i && !memB i q)=true→flat (getH h i)≠[]→ImAt W' ms' (α i) (((flat (getH h i)).map (SC.rz (fun j=>!memB j q) α)).map SC.raw)) →
   ∃ x hs,Ent C q ⟨[v.rz (fun j=>!memB j q) α],rzH (fun j=>!memB j q) α h⟩ ⟨[x],[.past W ms]::hs⟩∧Res x ([.past W' ms']::hs)):FinW C v h Res :=
 finW_frzU q hp hro hm hq fun W' ms' α hL hI=>hk W' ms' α hL fun i hi hf=>(hI i hi hf).1
theorem cx0_m {P:Program} {T:List (Nat × TD)} {w:World} {r0:Rho} {n:Nat} {h0:List (List Seg)}:∀ B∈(cx0 P T w r0 n h0).m,∃ (j f:Nat),(cx0 P T w r0 n h0).ro≤j∧(cx0 P T w r0 n h0).r0[j]?=some (B,f):=fun B hB=>by
 obtain ⟨j,f,h1,h2⟩:=mem_drop.1 hB
 exact ⟨j,f,h1,h2⟩
end
end Sx
end
section
namespace Sx
open Go.RowKit

section
variable {j : Nat} {a : Addr} {r r' : Rho}
end
end Sx
end
section
namespace Vi
open Sha

def lenN (n:BitVec 64):Nat:=if n<64#64 then 1 else if n<16384#64 then 2 else if n<1073741824#64 then 4 else if n<4611686018427387904#64 then 8 else 0
def okSz (k:Nat):Prop:=k=1∨k=2∨k=4∨k=8
def markB (k:Nat):BitVec 8:=if k=2 then 64#8 else if k=4 then 128#8 else if k=8 then 192#8 else 0#8
def byteN (n:BitVec 64) (j:Nat):BitVec 8:=(n >>> (8*j)).setWidth 8
def wideL (n:BitVec 64) (k:Nat):Bs:=tab k fun i=>if i=0 then byteN n (k-1) ||| markB k else byteN n (k-1-i)
def putL (n:BitVec 64):Bs:=wideL n (lenN n)
@[simp] theorem wideL_len (n:BitVec 64) (k:Nat):(wideL n k).length=k:=tab_len _ _
def sizeT (c:BitVec 8):Nat:=2 ^ (c >>> 6).toNat
def numT (l:Bs):Nat→BitVec 64
 | 0=>(L l 0 &&& 63#8).setWidth 64
 | i+1=>numT l i <<< 8 ||| (L l (i+1)).setWidth 64
theorem lenN_spec (n:BitVec 64):(n.toNat<64∧lenN n=1)∨(64≤n.toNat∧n.toNat<16384∧lenN n=2)∨(16384≤n.toNat∧n.toNat<1073741824∧lenN n=4) ∨
  (1073741824≤n.toNat∧n.toNat<4611686018427387904∧lenN n=8)∨(4611686018427387904≤n.toNat∧lenN n=0):=by
 unfold lenN
 simp only [BitVec.lt_def,BitVec.toNat_ofNat]
 split <;> (try split) <;> (try split) <;> (try split) <;> omega
theorem lenN_ok {n:BitVec 64} (h:lenN n≠0):okSz (lenN n):=by
 have:=lenN_spec n
 unfold okSz
 omega
theorem byteN_toNat (n:BitVec 64) (j:Nat):(byteN n j).toNat=n.toNat / 256 ^ j % 256:=by
 unfold byteN
 rw [BitVec.toNat_setWidth,BitVec.toNat_ushiftRight,Nat.shiftRight_eq_div_pow,Nat.pow_mul]
theorem step_toNat (a:BitVec 64) (c:BitVec 8) (h:a.toNat<2 ^ 56):(a <<< 8 ||| c.setWidth 64).toNat=a.toNat*256+c.toNat:=by
 have hc:=c.isLt
 rw [BitVec.toNat_or,BitVec.toNat_shiftLeft,BitVec.toNat_setWidth,Nat.shiftLeft_eq,Nat.mod_eq_of_lt (by omega),Nat.mod_eq_of_lt (by omega:c.toNat<2 ^ 64),Nat.mul_comm]
 exact (Nat.two_pow_add_eq_or_of_lt (by omega) _).symm
theorem mark_and:∀ c:BitVec 8,c<64#8→(c ||| 0#8) &&& 63#8=c∧(c ||| 64#8) &&& 63#8=c∧(c ||| 128#8) &&& 63#8=c∧(c ||| 192#8) &&& 63#8=c:=by decide +kernel
theorem mark_shr:∀ c:BitVec 8,c<64#8→((c ||| 0#8) >>> 6)=0#8∧((c ||| 64#8) >>> 6)=1#8∧((c ||| 128#8) >>> 6)=2#8∧((c ||| 192#8) >>> 6)=3#8:=by decide +kernel
theorem head_lt {n:BitVec 64} {k:Nat} (hk:okSz k) (h0:lenN n≠0) (h1:lenN n≤k):byteN n (k-1)<64#8∧n.toNat<64*256 ^ (k-1):=by
 have hs:=lenN_spec n
 rw [BitVec.lt_def,byteN_toNat]
 rcases hk with rfl|rfl|rfl|rfl <;> simp <;> omega
theorem take_wide {n:BitVec 64} {k:Nat} (hk:okSz k) (h0:lenN n≠0) (h1:lenN n≤k) (r:Bs):sizeT (L (wideL n k++r) 0)=k∧numT (wideL n k++r) (k-1)=n:=by
 obtain ⟨hb,hn⟩:=head_lt hk h0 h1
 have e0:∀ i,i<k→L (wideL n k++r) i=if i=0 then byteN n (k-1) ||| markB k else byteN n (k-1-i):=fun i hi=>by
  rw [L_app1 (by simpa using hi)]
  exact L_tab hi
 have a0:=mark_and _ hb
 have a1:=mark_shr _ hb
 have z:(L (wideL n k++r) 0 &&& 63#8)=byteN n (k-1)∧sizeT (L (wideL n k++r) 0)=k:=by
  rw [e0 0 (by rcases hk with rfl|rfl|rfl|rfl <;> omega),if_pos rfl]
  unfold sizeT
  rcases hk with rfl|rfl|rfl|rfl
  ·exact ⟨a0.1,by show 2 ^ ((byteN n 0 ||| 0#8) >>> 6).toNat=1; rw [a1.1]; rfl⟩
  ·exact ⟨a0.2.1,by show 2 ^ ((byteN n 1 ||| 64#8) >>> 6).toNat=2; rw [a1.2.1]; rfl⟩
  ·exact ⟨a0.2.2.1,by show 2 ^ ((byteN n 3 ||| 128#8) >>> 6).toNat=4; rw [a1.2.2.1]; rfl⟩
  ·exact ⟨a0.2.2.2,by show 2 ^ ((byteN n 7 ||| 192#8) >>> 6).toNat=8; rw [a1.2.2.2]; rfl⟩
 refine ⟨z.2,?_⟩
 have key:∀ i,i<k→(numT (wideL n k++r) i).toNat=n.toNat / 256 ^ (k-1-i):=by
  intro i hi
  induction i with
  | zero =>
   simp only [numT]
   rw [z.1,BitVec.toNat_setWidth,byteN_toNat,Nat.sub_zero]
   have hq:n.toNat / 256 ^ (k-1)<64:=Nat.div_lt_of_lt_mul (by rw [Nat.mul_comm]; exact hn)
   rw [Nat.mod_eq_of_lt (by omega:n.toNat / 256 ^ (k-1)<256),Nat.mod_eq_of_lt (by omega)]
  | succ i ih =>
   have ih:=ih (by omega)
   have hlt:n.toNat / 256 ^ (k-1-i)<2 ^ 56:=by
    have hn2:=n.isLt
    have hs:256≤256 ^ (k-1-i):=by
     have:256 ^ 1≤256 ^ (k-1-i):=Nat.pow_le_pow_right (by omega) (by omega)
     simpa using this
    have:=Nat.div_le_div_left hs (by omega:0<256) (a:=n.toNat)
    omega
   simp only [numT]
   rw [step_toNat _ _ (by rw [ih]; exact hlt),ih,e0 (i+1) hi,if_neg (by omega),byteN_toNat]
   have e:k-1-i=(k-1-(i+1))+1:=by omega
   rw [e,Nat.pow_succ,← Nat.div_div_eq_div_mul]
   omega
 apply BitVec.eq_of_toNat_eq
 have:=key (k-1) (by rcases hk with rfl|rfl|rfl|rfl <;> omega)
 simpa using this
end Vi
end
section
namespace Vi
open Sha
def takeM (l:Bs):BitVec 64 × Nat × Int:=if l.length=0∨l.length<sizeT (L l 0) then (0#64,0,3) else (numT l (sizeT (L l 0)-1),sizeT (L l 0),0)
end Vi
namespace Sx
open Sha Vi

structure Sl where
 z:Bool
 N:Nat
 o:Nat
 c:Nat
 l:Bs
structure Sl.Ok (s:Sl):Prop where
 fit:s.o+s.l.length≤s.N
 cap:s.l.length≤s.c
 nil:s.z=true→s.l=[]
 small:s.l.length≤1000000
end Sx
end
section
namespace Sx
open Go.RowKit Sha Vi

theorem ImAt.part {W:World} {ms:List Nat} {a:Addr} {l:List SC} (h:ImAt W ms a l) (o:Nat) {m:List SC} (hm:∀ j x,m[j]?=some x→l[o+j]?=some x):ImAt W ms (a.add o) m:=by
 obtain ⟨h0,h1,h2,h3⟩:=h
 obtain ⟨B,f,s⟩:=a
 simp only at h0 h1 h2 h3
 subst h0
 rw [add_none]
 exact ⟨rfl,h1,h2,fun j x e=>by
  obtain ⟨v,e1,e2⟩:=h3 (o+j) x (hm j x e)
  exact ⟨v,by rw [show f+o+j=f+(o+j) by omega]; exact e1,e2⟩⟩
theorem ImAt.sub {W:World} {ms:List Nat} {a:Addr} {l:List SC} (h:ImAt W ms a l) (o m:Nat):ImAt W ms (a.add o) ((l.drop o).take m) :=
 h.part o fun j x e=>by
  rw [List.getElem?_take] at e
  split at e
  ·rwa [List.getElem?_drop] at e
  ·cases e
theorem ImAt.one {W:World} {ms:List Nat} {a:Addr} {l:List SC} (h:ImAt W ms a l) {j:Nat} {x:SC} (e:l[j]?=some x):ImAt W ms (a.add j) [x] :=
 h.part j fun i y e2=>by
  cases i with
  | zero=>simp at e2; subst e2; exact e
  | succ i=>simp at e2
theorem ImAt.zero {W:World} {ms:List Nat} {a:Addr} {l:List SC} (h:ImAt W ms a l):a.add 0=a:=by
 obtain ⟨h0,_⟩:=h
 obtain ⟨B,f,s⟩:=a
 simp only at h0; subst h0
 rw [add_none]; rfl
theorem RawAt.past {C:Cx} {h:List (List Seg)} {i:Nat} {W:World} {ms:List Nat} (hp:h[i]?=some [.past W ms]) {a:Addr} {l:List SC} (k:ImAt W ms a l):RawAt C h a l:=.inr ⟨i,W,ms,hp,k⟩
structure SlAt (W:World) (ms:List Nat) (a:Option Addr) (n c sz:Nat) (l:List SC):Prop where
 len:l.length=n*sz
 le:n≤c
 cap:n≤9223372036854775807
 nil:a=none→c=0
 im:∀ x,a=some x→c≠0→ImAt W ms x l
theorem SlAt.later {W W':World} {ms ms':List Nat} {a:Option Addr} {n c sz:Nat} {l:List SC} (h:SlAt W ms a n c sz l) (k:Later W ms W' ms'):SlAt W' ms' a n c sz l :=
 ⟨h.len,h.le,h.cap,h.nil,fun x e hc=>(h.im x e hc).later k⟩
theorem SlAt.nul {W:World} {ms:List Nat} {sz:Nat}:SlAt W ms none 0 0 sz []:=⟨by simp,Nat.le_refl _,by decide,fun _=>rfl,fun x e _=>by cases e⟩
theorem SlAt.nil_ {W:World} {ms:List Nat} {n c sz:Nat} {l:List SC} (h:SlAt W ms none n c sz l):n=0∧c=0∧l=[]:=by
 have h1:=h.nil rfl
 have h2:=h.le
 have h3:n=0:=by omega
 exact ⟨h3,h1,List.eq_nil_of_length_eq_zero (by rw [h.len,h3,Nat.zero_mul])⟩
theorem range_nthC (l:List SC):(List.range l.length).map (nthC l)=l:=by
 apply List.ext_getElem (by simp)
 intro i h1 h2
 simp only [List.getElem_map,List.getElem_range]
 have:∀ (l:List SC) (i:Nat) (h:i<l.length),nthC l i=l[i]:=by
  intro l
  induction l with
  | nil=>intro i h; simp at h
  | cons x l ih =>
   intro i h
   cases i with
   | zero=>rfl
   | succ i=>exact ih i (by simpa using h)
 exact this l i h2
theorem nthC_get?:∀ {l:List SC} {i:Nat} {x:SC},l[i]?=some x→nthC l i=x
 | [],_,_,h=>by simp at h
 | y::l,0,x,h=>by simpa [nthC] using h
 | y::l,i+1,x,h=>nthC_get? (l:=l) (by simpa using h)
theorem srcR {C:Cx} {h:List (List Seg)} {i:Nat} {W:World} {ms:List Nat} (hp:h[i]?=some [.past W ms]) {a:Addr} {n c sz:Nat} {l:List SC} (k:SlAt W ms (some a) n c sz l) {K:(Nat→SC)→Prop} (hk:K (nthC l)) :
  ∃ f,(n=0∨RawAt C h a ((List.range (n*sz)).map f))∧K f :=
 ⟨nthC l,by
  rcases Nat.eq_zero_or_pos n with h0|h0
  ·exact .inl h0
  ·exact .inr (by rw [← k.len,range_nthC]; exact .past hp (k.im a rfl (by have:=k.le; omega))),hk⟩
abbrev BsAt (W:World) (ms:List Nat) (a:Option Addr) (n c:Nat) (l:Bs):Prop:=SlAt W ms a n c 1 (l.map .w8)
abbrev NsAt (W:World) (ms:List Nat) (a:Option Addr) (n c:Nat) (l:List (BitVec 64)):Prop:=SlAt W ms a n c 1 (l.map .w64)
abbrev StAt (W:World) (ms:List Nat) (a:Option Addr) (n c:Nat) (l:List (List UInt8)):Prop:=SlAt W ms a n c 1 (l.map .str)
theorem SlAt.n1 {α:Type} {g:α→SC} {W:World} {ms:List Nat} {a:Option Addr} {n c:Nat} {l:List α} (h:SlAt W ms a n c 1 (l.map g)):l.length=n:=by
 have:=h.len; simpa using this
theorem loadR {C:Cx} {h:List (List Seg)} {i:Nat} {W:World} {ms:List Nat} (hp:h[i]?=some [.past W ms]) {x:Addr} {l:List SC} (k:ImAt W ms x l) {j:Nat} {y:SC} (e:l[j]?=some y) {K:List Seg→Prop} (hk:K [.one y]) :
  ∃ s,(RawAt C h (x.add j) (flat s)∧(flat s).length=1)∧K s :=
 ⟨[.one y],⟨.past hp (k.one e),rfl⟩,hk⟩
theorem map_get? {α:Type} {g:α→SC} {l:List α} {j:Nat} {y:α} (e:l[j]?=some y):(l.map g)[j]?=some (g y):=by
 rw [List.getElem?_map,e]; rfl
theorem SlAt.frz {W:World} {ms:List Nat} {A:Addr} {F:Nat→Bool} {α:Nat→Addr} {N n c sz:Nat} {f:Nat→SC} {l:List SC} (h:flat [.row N f]≠[]→ImAt W ms A (((flat [.row N f]).map (SC.rz F α)).map SC.raw)) (hN:scale c sz=N) (hn:n≤c) (hc:n≤9223372036854775807) (hsz:sz≠0)
  (hl:l.length=n*sz) (hf:∀ j x,l[j]?=some x→f j=x) (hr:∀ x∈l,(x.rz F α).raw=x):SlAt W ms (some (A.add (0+0))) n c sz l:=by
 refine ⟨hl,hn,hc,(fun e=>by cases e),fun x e h0=>?_⟩
 injection e with e
 subst e
 rw [scale_eq] at hN
 have hpos:0<c*sz:=Nat.mul_pos (by omega) (by omega)
 have hne:flat [.row N f]≠[]:=by
  intro e
  have:=congrArg List.length e
  simp [flat] at this
  omega
 refine (h hne).part (0+0) fun j x e=>?_
 have hj:j<n*sz:=by
  rw [← hl]
  exact (List.getElem?_eq_some_iff.1 e).1
 have hjN:j<N:=by
  rw [← hN]
  exact Nat.lt_of_lt_of_le hj (Nat.mul_le_mul_right _ hn)
 have e1:=hf j x e
 rw [show 0+0+j=j by omega,List.getElem?_map,List.getElem?_map]
 simp only [flat,List.append_nil,List.getElem?_map,List.getElem?_range hjN,Option.map_some]
 rw [e1,hr x (List.mem_of_getElem? e)]
theorem newF_lt {m:Nat} {g:Nat→SC} {j:Nat} (h:j<m):newF m g j=g j:=if_pos h
theorem newR {l:List SC} {n sz:Nat} (hl:l.length=n*sz) (hs:sz≠0) (j:Nat) (x:SC) (e:l[j]?=some x):newF (scale n sz) (nthC l) j=x:=by
 have hj:=(List.getElem?_eq_some_iff.1 e).1
 rw [newF_lt (by rw [scale_eq,← hl]; exact hj)]
 exact nthC_get? e
theorem rz_w64 (l:List (BitVec 64)) {F:Nat→Bool} {α:Nat→Addr}:∀ x∈l.map SC.w64,(x.rz F α).raw=x:=fun x hx=>by
 obtain ⟨b,_,rfl⟩:=List.mem_map.1 hx
 rfl
theorem rz_w8 (l:Bs) {F:Nat→Bool} {α:Nat→Addr}:∀ x∈l.map SC.w8,(x.rz F α).raw=x:=fun x hx=>by
 obtain ⟨b,_,rfl⟩:=List.mem_map.1 hx
 rfl
theorem rz_str (l:List (List UInt8)) {F:Nat→Bool} {α:Nat→Addr}:∀ x∈l.map SC.str,(x.rz F α).raw=x:=fun x hx=>by
 obtain ⟨b,_,rfl⟩:=List.mem_map.1 hx
 rfl
/-! Blocks in which a name does not stand. -/
end Sx
end
section
namespace Ev
def evRow:Nat→List (List UInt8)
 | 1=>[[112,104,97,115,101],[112,104,97,115,101]]
 | 2=>[[112,97,99,107,101,116,95,115,101,110,116],[115,112,97,99,101],[110,117,109,98,101,114],[115,105,122,101],[101,108,105,99,105,116,105,110,103],[102,108,105,103,104,116]]
 | 3=>[[112,97,99,107,101,116,95,114,101,99,101,105,118,101,100],[115,112,97,99,101],[110,117,109,98,101,114],[115,105,122,101]]
 | 4=>[[112,97,99,107,101,116,95,97,99,107,101,100],[115,112,97,99,101],[110,117,109,98,101,114]]
 | 5=>[[112,97,99,107,101,116,95,108,111,115,116],[115,112,97,99,101],[110,117,109,98,101,114],[119,104,121]]
 | 6=>[[115,112,97,99,101,95,100,114,111,112,112,101,100],[115,112,97,99,101]]
 | 7=>[[114,97,110,103,101,115,95,102,111,114,103,111,116,116,101,110],[115,112,97,99,101],[98,101,108,111,119]]
 | 8=>[[109,101,116,114,105,99,115,95,117,112,100,97,116,101,100],[108,97,116,101,115,116],[108,101,97,115,116],[115,109,111,111,116,104],[118,97,114,105,97,110,99,101],[119,105,110,100,111,119],[102,108,105,103,104,116],[115,108,111,119],[112,114,111,98,101,115]]
 | 9=>[[99,114,101,100,105,116,95,117,112,100,97,116,101,100],[115,116,114,101,97,109],[103,105,118,101,110],[117,115,101,100],[103,111,116],[115,112,101,110,116]]
 | 10=>[[115,116,114,101,97,109,95,117,112,100,97,116,101,100],[115,116,114,101,97,109],[115,101,110,100],[119,114,105,116,116,101,110],[99,97,109,101],[114,101,99,118],[114,101,97,100],[104,105,103,104]]
 | 11=>[[111,119,110,95,105,100,95,103,105,118,101,110],[115,101,113]]
 | 12=>[[111,119,110,95,105,100,95,114,101,116,105,114,101,100],[115,101,113]]
 | 13=>[[111,116,104,101,114,95,105,100,95,103,105,118,101,110],[115,101,113]]
 | 14=>[[111,116,104,101,114,95,105,100,95,114,101,116,105,114,101,100],[115,101,113]]
 | 15=>[[105,100,95,117,115,101,100],[115,101,113]]
 | 16=>[[112,97,116,104,95,117,112,100,97,116,101,100],[112,97,116,104],[115,116,97,116,101]]
 | 17=>[[107,101,121,95,117,112,100,97,116,101,100],[115,112,97,99,101],[116,117,114,110]]
 | 18=>[[99,111,110,110,101,99,116,105,111,110,95,99,108,111,115,101,100],[99,111,100,101],[97,112,112],[111,119,110]]
 | 19=>[[108,111,103,95,116,114,117,110,99,97,116,101,100]]
 | _=>[]
def evName (k:BitVec 8):List UInt8:=(evRow k.toNat).headD []
def evNames (k:BitVec 8):List (List UInt8):=(evRow k.toNat).tail
def evData (k:BitVec 8):Bool:=k.toNat == 11 || k.toNat == 13
def evOk (k:BitVec 8):Bool:=decide (1≤k.toNat∧k.toNat≤19)
end Ev
namespace Sx
open Go.RowKit Sha Vi Ev

def strsF (l:List (List UInt8)):Nat→SC:=nthC (l.map .str)
def stB:List (List UInt8)→List Seg
 | []=>[]
 | x::l=>[.row (x::l).length (strsF (x::l))]
abbrev stZ (l:List (List UInt8)):Bool:=l.isEmpty
abbrev stC (i:Nat) (l:List (List UInt8)):SC:=.sn (stZ l) i 0 0 l.length l.length
theorem nthC_str:∀ (l:List (List UInt8)) (j:Nat),j<l.length→∃ s,nthC (l.map SC.str) j=.str s∧l[j]?=some s
 | [],_,h=>absurd h (by simp)
 | x::l,0,_=>⟨x,rfl,rfl⟩
 | x::l,j+1,h=>nthC_str l j (by simpa using h)
theorem eqC_strs {q:List Nat} (l:List (List UInt8)) {j:Nat} (h:j<l.length):eqC q (nthC (l.map SC.str) j) (strsF l j) True:=by
 obtain ⟨s,e,_⟩:=nthC_str l j h
 unfold strsF
 rw [e]; exact ⟨rfl,trivial⟩
theorem eqC_strsM {q:List Nat} {g:Nat→Nat} (l:List (List UInt8)) {j:Nat} (h:j<l.length):eqC q (SC.mp g (nthC (l.map SC.str) j)) (strsF l j) True:=by
 obtain ⟨s,e,_⟩:=nthC_str l j h
 unfold strsF
 rw [e]; exact ⟨rfl,trivial⟩
theorem fn_eshape (nm:List UInt8) (n:Nat) (f:Nat→SC) (hf:∀ j,j<n→eqC [0] (f j) (f j) True):Fn Tryd.prog tds 51 [[.row n f]] [.c (.str nm),.c (.sl 0 0 0 n n)] (fun _=>True)
  (fun y hs=>y=.a (.agg [.one (.str nm),.one (.sl 0 0 0 n n),.one (.bool false)])∧hs=[[.row n f]]):=by
 refine fn_of_body tds_ok follows_ Tryd.func51 rfl (t:=.a (.c (.str nm))::.a (.c (.sl 0 0 0 n n))::anys (Tryd.f51.ntmps-2)) rfl (fun w r0 hr _=>?_)
 obtain ⟨x0,rfl⟩:=List.length_eq_one_iff.1 hr
 (repeat show _∧_;first|refine yr ?_|refine yt ?_|refine yf ?_|refine yo ?_)
 refine ⟨.a (.agg [.one (.str nm),.one (.sl 0 0 0 n n),.one (.bool false)]),[[.row n f]],⟨[0],⟨rfl,rfl,rfl⟩,?_⟩,rfl,rfl⟩
 (repeat first|exact trivial|refine ent1 ?_)
theorem fn_eshape0 (nm:List UInt8):Fn Tryd.prog tds 51 [] [.c (.str nm),.c (.slc none 0 0)] (fun _=>True)
  (fun y hs=>y=.a (.agg [.one (.str nm),.one (.slc none 0 0),.one (.bool false)])∧hs=[]):=by
 refine fn_of_body tds_ok follows_ Tryd.func51 rfl (t:=.a (.c (.str nm))::.a (.c (.slc none 0 0))::anys (Tryd.f51.ntmps-2)) rfl (fun w r0 hr _=>?_)
 obtain rfl:r0=[]:=List.eq_nil_of_length_eq_zero hr
 (repeat show _∧_;first|refine yr ?_|refine yt ?_|refine yf ?_|refine yo ?_)
 exact ⟨.a (.agg [.one (.str nm),.one (.slc none 0 0),.one (.bool false)]),[],⟨[],⟨rfl,rfl,rfl⟩,by (repeat first|exact trivial|refine ent1 ?_)⟩,rfl,rfl⟩
set_option maxRecDepth 20000 in
set_option maxHeartbeats 8000000 in
theorem fn_eof (k:BitVec 8):Fn Tryd.prog tds 30 [] [.c (.w8 k)] (fun _=>True)
  (fun y hs=>y=.tup [.agg [.one (.str (evName k)),.one (stC 0 (evNames k)),.one (.bool (evData k))],.c (.bool (evOk k))]∧hs=[stB (evNames k)]):=by
 refine fn_of_body tds_ok follows_ Tryd.func30 rfl (t:=.a (.c (.w8 k))::anys (Tryd.f30.ntmps-1)) rfl (fun w r0 hr _=>?_)
 obtain rfl:r0=[]:=List.eq_nil_of_length_eq_zero hr
 (repeat show _∧_;first|refine yr ?_|refine yt ?_|refine yf ?_|refine yo ?_)
 by_cases h1:k=1#8
 ·subst h1
  (repeat show _∧_;first|refine yr ?_|refine yt ?_|refine yf ?_|refine yo ?_)
  refine call_same (fn_eshape _ 1 _ (fun j hj=>eqC_strs (evNames 1#8) hj)) [1] rfl (by (repeat first|exact trivial|refine ent1 ?_)) (by exact ⟨rfl,fun j hj=>eqC_strs (evNames 1#8) hj,trivial⟩) (fun _ _=>trivial) ?_
  rintro y hs' ⟨rfl,rfl⟩
  (repeat show _∧_;first|refine yr ?_|refine yt ?_|refine yf ?_|refine yo ?_)
  refine ⟨.tup [.agg [.one (.str (evName 1#8)),.one (stC 0 (evNames 1#8)),.one (.bool (evData 1#8))],.c (.bool (evOk 1#8))],[stB (evNames 1#8)],⟨[1],⟨rfl,rfl,rfl⟩,?_⟩,rfl,rfl⟩
  (repeat first|exact trivial|refine ent1 ?_)
  exact ⟨fun j hj=>eqC_strsM (evNames 1#8) hj,trivial⟩
 have e1:decide (k=1#8)=false:=decide_eq_false h1
 (repeat show _∧_;first|refine yr ?_|refine yt ?_|refine yf ?_|refine ya e1 ?_|refine yb e1 ?_|refine yo ?_)
 by_cases h2:k=2#8
 ·subst h2
  (repeat show _∧_;first|refine yr ?_|refine yt ?_|refine yf ?_|refine yo ?_)
  refine call_same (fn_eshape _ 5 _ (fun j hj=>eqC_strs (evNames 2#8) hj)) [1] rfl (by (repeat first|exact trivial|refine ent1 ?_)) (by exact ⟨rfl,fun j hj=>eqC_strs (evNames 2#8) hj,trivial⟩) (fun _ _=>trivial) ?_
  rintro y hs' ⟨rfl,rfl⟩
  (repeat show _∧_;first|refine yr ?_|refine yt ?_|refine yf ?_|refine yo ?_)
  refine ⟨.tup [.agg [.one (.str (evName 2#8)),.one (stC 0 (evNames 2#8)),.one (.bool (evData 2#8))],.c (.bool (evOk 2#8))],[stB (evNames 2#8)],⟨[1],⟨rfl,rfl,rfl⟩,?_⟩,rfl,rfl⟩
  (repeat first|exact trivial|refine ent1 ?_)
  exact ⟨fun j hj=>eqC_strsM (evNames 2#8) hj,trivial⟩
 have e2:decide (k=2#8)=false:=decide_eq_false h2
 (repeat show _∧_;first|refine yr ?_|refine yt ?_|refine yf ?_|refine ya e2 ?_|refine yb e2 ?_|refine yo ?_)
 by_cases h3:k=3#8
 ·subst h3
  (repeat show _∧_;first|refine yr ?_|refine yt ?_|refine yf ?_|refine yo ?_)
  refine call_same (fn_eshape _ 3 _ (fun j hj=>eqC_strs (evNames 3#8) hj)) [1] rfl (by (repeat first|exact trivial|refine ent1 ?_)) (by exact ⟨rfl,fun j hj=>eqC_strs (evNames 3#8) hj,trivial⟩) (fun _ _=>trivial) ?_
  rintro y hs' ⟨rfl,rfl⟩
  (repeat show _∧_;first|refine yr ?_|refine yt ?_|refine yf ?_|refine yo ?_)
  refine ⟨.tup [.agg [.one (.str (evName 3#8)),.one (stC 0 (evNames 3#8)),.one (.bool (evData 3#8))],.c (.bool (evOk 3#8))],[stB (evNames 3#8)],⟨[1],⟨rfl,rfl,rfl⟩,?_⟩,rfl,rfl⟩
  (repeat first|exact trivial|refine ent1 ?_)
  exact ⟨fun j hj=>eqC_strsM (evNames 3#8) hj,trivial⟩
 have e3:decide (k=3#8)=false:=decide_eq_false h3
 (repeat show _∧_;first|refine yr ?_|refine yt ?_|refine yf ?_|refine ya e3 ?_|refine yb e3 ?_|refine yo ?_)
 by_cases h4:k=4#8
 ·subst h4
  (repeat show _∧_;first|refine yr ?_|refine yt ?_|refine yf ?_|refine yo ?_)
  refine call_same (fn_eshape _ 2 _ (fun j hj=>eqC_strs (evNames 4#8) hj)) [1] rfl (by (repeat first|exact trivial|refine ent1 ?_)) (by exact ⟨rfl,fun j hj=>eqC_strs (evNames 4#8) hj,trivial⟩) (fun _ _=>trivial) ?_
  rintro y hs' ⟨rfl,rfl⟩
  (repeat show _∧_;first|refine yr ?_|refine yt ?_|refine yf ?_|refine yo ?_)
  refine ⟨.tup [.agg [.one (.str (evName 4#8)),.one (stC 0 (evNames 4#8)),.one (.bool (evData 4#8))],.c (.bool (evOk 4#8))],[stB (evNames 4#8)],⟨[1],⟨rfl,rfl,rfl⟩,?_⟩,rfl,rfl⟩
  (repeat first|exact trivial|refine ent1 ?_)
  exact ⟨fun j hj=>eqC_strsM (evNames 4#8) hj,trivial⟩
 have e4:decide (k=4#8)=false:=decide_eq_false h4
 (repeat show _∧_;first|refine yr ?_|refine yt ?_|refine yf ?_|refine ya e4 ?_|refine yb e4 ?_|refine yo ?_)
 by_cases h5:k=5#8
 ·subst h5
  (repeat show _∧_;first|refine yr ?_|refine yt ?_|refine yf ?_|refine yo ?_)
  refine call_same (fn_eshape _ 3 _ (fun j hj=>eqC_strs (evNames 5#8) hj)) [1] rfl (by (repeat first|exact trivial|refine ent1 ?_)) (by exact ⟨rfl,fun j hj=>eqC_strs (evNames 5#8) hj,trivial⟩) (fun _ _=>trivial) ?_
  rintro y hs' ⟨rfl,rfl⟩
  (repeat show _∧_;first|refine yr ?_|refine yt ?_|refine yf ?_|refine yo ?_)
  refine ⟨.tup [.agg [.one (.str (evName 5#8)),.one (stC 0 (evNames 5#8)),.one (.bool (evData 5#8))],.c (.bool (evOk 5#8))],[stB (evNames 5#8)],⟨[1],⟨rfl,rfl,rfl⟩,?_⟩,rfl,rfl⟩
  (repeat first|exact trivial|refine ent1 ?_)
  exact ⟨fun j hj=>eqC_strsM (evNames 5#8) hj,trivial⟩
 have e5:decide (k=5#8)=false:=decide_eq_false h5
 (repeat show _∧_;first|refine yr ?_|refine yt ?_|refine yf ?_|refine ya e5 ?_|refine yb e5 ?_|refine yo ?_)
 by_cases h6:k=6#8
 ·subst h6
  (repeat show _∧_;first|refine yr ?_|refine yt ?_|refine yf ?_|refine yo ?_)
  refine call_same (fn_eshape _ 1 _ (fun j hj=>eqC_strs (evNames 6#8) hj)) [1] rfl (by (repeat first|exact trivial|refine ent1 ?_)) (by exact ⟨rfl,fun j hj=>eqC_strs (evNames 6#8) hj,trivial⟩) (fun _ _=>trivial) ?_
  rintro y hs' ⟨rfl,rfl⟩
  (repeat show _∧_;first|refine yr ?_|refine yt ?_|refine yf ?_|refine yo ?_)
  refine ⟨.tup [.agg [.one (.str (evName 6#8)),.one (stC 0 (evNames 6#8)),.one (.bool (evData 6#8))],.c (.bool (evOk 6#8))],[stB (evNames 6#8)],⟨[1],⟨rfl,rfl,rfl⟩,?_⟩,rfl,rfl⟩
  (repeat first|exact trivial|refine ent1 ?_)
  exact ⟨fun j hj=>eqC_strsM (evNames 6#8) hj,trivial⟩
 have e6:decide (k=6#8)=false:=decide_eq_false h6
 (repeat show _∧_;first|refine yr ?_|refine yt ?_|refine yf ?_|refine ya e6 ?_|refine yb e6 ?_|refine yo ?_)
 by_cases h7:k=7#8
 ·subst h7
  (repeat show _∧_;first|refine yr ?_|refine yt ?_|refine yf ?_|refine yo ?_)
  refine call_same (fn_eshape _ 2 _ (fun j hj=>eqC_strs (evNames 7#8) hj)) [1] rfl (by (repeat first|exact trivial|refine ent1 ?_)) (by exact ⟨rfl,fun j hj=>eqC_strs (evNames 7#8) hj,trivial⟩) (fun _ _=>trivial) ?_
  rintro y hs' ⟨rfl,rfl⟩
  (repeat show _∧_;first|refine yr ?_|refine yt ?_|refine yf ?_|refine yo ?_)
  refine ⟨.tup [.agg [.one (.str (evName 7#8)),.one (stC 0 (evNames 7#8)),.one (.bool (evData 7#8))],.c (.bool (evOk 7#8))],[stB (evNames 7#8)],⟨[1],⟨rfl,rfl,rfl⟩,?_⟩,rfl,rfl⟩
  (repeat first|exact trivial|refine ent1 ?_)
  exact ⟨fun j hj=>eqC_strsM (evNames 7#8) hj,trivial⟩
 have e7:decide (k=7#8)=false:=decide_eq_false h7
 (repeat show _∧_;first|refine yr ?_|refine yt ?_|refine yf ?_|refine ya e7 ?_|refine yb e7 ?_|refine yo ?_)
 by_cases h8:k=8#8
 ·subst h8
  (repeat show _∧_;first|refine yr ?_|refine yt ?_|refine yf ?_|refine yo ?_)
  refine call_same (fn_eshape _ 8 _ (fun j hj=>eqC_strs (evNames 8#8) hj)) [1] rfl (by (repeat first|exact trivial|refine ent1 ?_)) (by exact ⟨rfl,fun j hj=>eqC_strs (evNames 8#8) hj,trivial⟩) (fun _ _=>trivial) ?_
  rintro y hs' ⟨rfl,rfl⟩
  (repeat show _∧_;first|refine yr ?_|refine yt ?_|refine yf ?_|refine yo ?_)
  refine ⟨.tup [.agg [.one (.str (evName 8#8)),.one (stC 0 (evNames 8#8)),.one (.bool (evData 8#8))],.c (.bool (evOk 8#8))],[stB (evNames 8#8)],⟨[1],⟨rfl,rfl,rfl⟩,?_⟩,rfl,rfl⟩
  (repeat first|exact trivial|refine ent1 ?_)
  exact ⟨fun j hj=>eqC_strsM (evNames 8#8) hj,trivial⟩
 have e8:decide (k=8#8)=false:=decide_eq_false h8
 (repeat show _∧_;first|refine yr ?_|refine yt ?_|refine yf ?_|refine ya e8 ?_|refine yb e8 ?_|refine yo ?_)
 by_cases h9:k=9#8
 ·subst h9
  (repeat show _∧_;first|refine yr ?_|refine yt ?_|refine yf ?_|refine yo ?_)
  refine call_same (fn_eshape _ 5 _ (fun j hj=>eqC_strs (evNames 9#8) hj)) [1] rfl (by (repeat first|exact trivial|refine ent1 ?_)) (by exact ⟨rfl,fun j hj=>eqC_strs (evNames 9#8) hj,trivial⟩) (fun _ _=>trivial) ?_
  rintro y hs' ⟨rfl,rfl⟩
  (repeat show _∧_;first|refine yr ?_|refine yt ?_|refine yf ?_|refine yo ?_)
  refine ⟨.tup [.agg [.one (.str (evName 9#8)),.one (stC 0 (evNames 9#8)),.one (.bool (evData 9#8))],.c (.bool (evOk 9#8))],[stB (evNames 9#8)],⟨[1],⟨rfl,rfl,rfl⟩,?_⟩,rfl,rfl⟩
  (repeat first|exact trivial|refine ent1 ?_)
  exact ⟨fun j hj=>eqC_strsM (evNames 9#8) hj,trivial⟩
 have e9:decide (k=9#8)=false:=decide_eq_false h9
 (repeat show _∧_;first|refine yr ?_|refine yt ?_|refine yf ?_|refine ya e9 ?_|refine yb e9 ?_|refine yo ?_)
 by_cases h10:k=10#8
 ·subst h10
  (repeat show _∧_;first|refine yr ?_|refine yt ?_|refine yf ?_|refine yo ?_)
  refine call_same (fn_eshape _ 7 _ (fun j hj=>eqC_strs (evNames 10#8) hj)) [1] rfl (by (repeat first|exact trivial|refine ent1 ?_)) (by exact ⟨rfl,fun j hj=>eqC_strs (evNames 10#8) hj,trivial⟩) (fun _ _=>trivial) ?_
  rintro y hs' ⟨rfl,rfl⟩
  (repeat show _∧_;first|refine yr ?_|refine yt ?_|refine yf ?_|refine yo ?_)
  refine ⟨.tup [.agg [.one (.str (evName 10#8)),.one (stC 0 (evNames 10#8)),.one (.bool (evData 10#8))],.c (.bool (evOk 10#8))],[stB (evNames 10#8)],⟨[1],⟨rfl,rfl,rfl⟩,?_⟩,rfl,rfl⟩
  (repeat first|exact trivial|refine ent1 ?_)
  exact ⟨fun j hj=>eqC_strsM (evNames 10#8) hj,trivial⟩
 have e10:decide (k=10#8)=false:=decide_eq_false h10
 (repeat show _∧_;first|refine yr ?_|refine yt ?_|refine yf ?_|refine ya e10 ?_|refine yb e10 ?_|refine yo ?_)
 by_cases h11:k=11#8
 ·subst h11
  (repeat show _∧_;first|refine yr ?_|refine yt ?_|refine yf ?_|refine yo ?_)
  refine ⟨.tup [.agg [.one (.str (evName 11#8)),.one (stC 0 (evNames 11#8)),.one (.bool (evData 11#8))],.c (.bool (evOk 11#8))],[stB (evNames 11#8)],⟨[1],⟨rfl,rfl,rfl⟩,?_⟩,rfl,rfl⟩
  (repeat first|exact trivial|refine ent1 ?_)
  exact ⟨fun j hj=>eqC_strs (evNames 11#8) hj,trivial⟩
 have e11:decide (k=11#8)=false:=decide_eq_false h11
 (repeat show _∧_;first|refine yr ?_|refine yt ?_|refine yf ?_|refine ya e11 ?_|refine yb e11 ?_|refine yo ?_)
 by_cases h12:k=12#8
 ·subst h12
  (repeat show _∧_;first|refine yr ?_|refine yt ?_|refine yf ?_|refine yo ?_)
  refine call_same (fn_eshape _ 1 _ (fun j hj=>eqC_strs (evNames 12#8) hj)) [1] rfl (by (repeat first|exact trivial|refine ent1 ?_)) (by exact ⟨rfl,fun j hj=>eqC_strs (evNames 12#8) hj,trivial⟩) (fun _ _=>trivial) ?_
  rintro y hs' ⟨rfl,rfl⟩
  (repeat show _∧_;first|refine yr ?_|refine yt ?_|refine yf ?_|refine yo ?_)
  refine ⟨.tup [.agg [.one (.str (evName 12#8)),.one (stC 0 (evNames 12#8)),.one (.bool (evData 12#8))],.c (.bool (evOk 12#8))],[stB (evNames 12#8)],⟨[1],⟨rfl,rfl,rfl⟩,?_⟩,rfl,rfl⟩
  (repeat first|exact trivial|refine ent1 ?_)
  exact ⟨fun j hj=>eqC_strsM (evNames 12#8) hj,trivial⟩
 have e12:decide (k=12#8)=false:=decide_eq_false h12
 (repeat show _∧_;first|refine yr ?_|refine yt ?_|refine yf ?_|refine ya e12 ?_|refine yb e12 ?_|refine yo ?_)
 by_cases h13:k=13#8
 ·subst h13
  (repeat show _∧_;first|refine yr ?_|refine yt ?_|refine yf ?_|refine yo ?_)
  refine ⟨.tup [.agg [.one (.str (evName 13#8)),.one (stC 0 (evNames 13#8)),.one (.bool (evData 13#8))],.c (.bool (evOk 13#8))],[stB (evNames 13#8)],⟨[1],⟨rfl,rfl,rfl⟩,?_⟩,rfl,rfl⟩
  (repeat first|exact trivial|refine ent1 ?_)
  exact ⟨fun j hj=>eqC_strs (evNames 13#8) hj,trivial⟩
 have e13:decide (k=13#8)=false:=decide_eq_false h13
 (repeat show _∧_;first|refine yr ?_|refine yt ?_|refine yf ?_|refine ya e13 ?_|refine yb e13 ?_|refine yo ?_)
 by_cases h14:k=14#8
 ·subst h14
  (repeat show _∧_;first|refine yr ?_|refine yt ?_|refine yf ?_|refine yo ?_)
  refine call_same (fn_eshape _ 1 _ (fun j hj=>eqC_strs (evNames 14#8) hj)) [1] rfl (by (repeat first|exact trivial|refine ent1 ?_)) (by exact ⟨rfl,fun j hj=>eqC_strs (evNames 14#8) hj,trivial⟩) (fun _ _=>trivial) ?_
  rintro y hs' ⟨rfl,rfl⟩
  (repeat show _∧_;first|refine yr ?_|refine yt ?_|refine yf ?_|refine yo ?_)
  refine ⟨.tup [.agg [.one (.str (evName 14#8)),.one (stC 0 (evNames 14#8)),.one (.bool (evData 14#8))],.c (.bool (evOk 14#8))],[stB (evNames 14#8)],⟨[1],⟨rfl,rfl,rfl⟩,?_⟩,rfl,rfl⟩
  (repeat first|exact trivial|refine ent1 ?_)
  exact ⟨fun j hj=>eqC_strsM (evNames 14#8) hj,trivial⟩
 have e14:decide (k=14#8)=false:=decide_eq_false h14
 (repeat show _∧_;first|refine yr ?_|refine yt ?_|refine yf ?_|refine ya e14 ?_|refine yb e14 ?_|refine yo ?_)
 by_cases h15:k=15#8
 ·subst h15
  (repeat show _∧_;first|refine yr ?_|refine yt ?_|refine yf ?_|refine yo ?_)
  refine call_same (fn_eshape _ 1 _ (fun j hj=>eqC_strs (evNames 15#8) hj)) [1] rfl (by (repeat first|exact trivial|refine ent1 ?_)) (by exact ⟨rfl,fun j hj=>eqC_strs (evNames 15#8) hj,trivial⟩) (fun _ _=>trivial) ?_
  rintro y hs' ⟨rfl,rfl⟩
  (repeat show _∧_;first|refine yr ?_|refine yt ?_|refine yf ?_|refine yo ?_)
  refine ⟨.tup [.agg [.one (.str (evName 15#8)),.one (stC 0 (evNames 15#8)),.one (.bool (evData 15#8))],.c (.bool (evOk 15#8))],[stB (evNames 15#8)],⟨[1],⟨rfl,rfl,rfl⟩,?_⟩,rfl,rfl⟩
  (repeat first|exact trivial|refine ent1 ?_)
  exact ⟨fun j hj=>eqC_strsM (evNames 15#8) hj,trivial⟩
 have e15:decide (k=15#8)=false:=decide_eq_false h15
 (repeat show _∧_;first|refine yr ?_|refine yt ?_|refine yf ?_|refine ya e15 ?_|refine yb e15 ?_|refine yo ?_)
 by_cases h16:k=16#8
 ·subst h16
  (repeat show _∧_;first|refine yr ?_|refine yt ?_|refine yf ?_|refine yo ?_)
  refine call_same (fn_eshape _ 2 _ (fun j hj=>eqC_strs (evNames 16#8) hj)) [1] rfl (by (repeat first|exact trivial|refine ent1 ?_)) (by exact ⟨rfl,fun j hj=>eqC_strs (evNames 16#8) hj,trivial⟩) (fun _ _=>trivial) ?_
  rintro y hs' ⟨rfl,rfl⟩
  (repeat show _∧_;first|refine yr ?_|refine yt ?_|refine yf ?_|refine yo ?_)
  refine ⟨.tup [.agg [.one (.str (evName 16#8)),.one (stC 0 (evNames 16#8)),.one (.bool (evData 16#8))],.c (.bool (evOk 16#8))],[stB (evNames 16#8)],⟨[1],⟨rfl,rfl,rfl⟩,?_⟩,rfl,rfl⟩
  (repeat first|exact trivial|refine ent1 ?_)
  exact ⟨fun j hj=>eqC_strsM (evNames 16#8) hj,trivial⟩
 have e16:decide (k=16#8)=false:=decide_eq_false h16
 (repeat show _∧_;first|refine yr ?_|refine yt ?_|refine yf ?_|refine ya e16 ?_|refine yb e16 ?_|refine yo ?_)
 by_cases h17:k=17#8
 ·subst h17
  (repeat show _∧_;first|refine yr ?_|refine yt ?_|refine yf ?_|refine yo ?_)
  refine call_same (fn_eshape _ 2 _ (fun j hj=>eqC_strs (evNames 17#8) hj)) [1] rfl (by (repeat first|exact trivial|refine ent1 ?_)) (by exact ⟨rfl,fun j hj=>eqC_strs (evNames 17#8) hj,trivial⟩) (fun _ _=>trivial) ?_
  rintro y hs' ⟨rfl,rfl⟩
  (repeat show _∧_;first|refine yr ?_|refine yt ?_|refine yf ?_|refine yo ?_)
  refine ⟨.tup [.agg [.one (.str (evName 17#8)),.one (stC 0 (evNames 17#8)),.one (.bool (evData 17#8))],.c (.bool (evOk 17#8))],[stB (evNames 17#8)],⟨[1],⟨rfl,rfl,rfl⟩,?_⟩,rfl,rfl⟩
  (repeat first|exact trivial|refine ent1 ?_)
  exact ⟨fun j hj=>eqC_strsM (evNames 17#8) hj,trivial⟩
 have e17:decide (k=17#8)=false:=decide_eq_false h17
 (repeat show _∧_;first|refine yr ?_|refine yt ?_|refine yf ?_|refine ya e17 ?_|refine yb e17 ?_|refine yo ?_)
 by_cases h18:k=18#8
 ·subst h18
  (repeat show _∧_;first|refine yr ?_|refine yt ?_|refine yf ?_|refine yo ?_)
  refine call_same (fn_eshape _ 3 _ (fun j hj=>eqC_strs (evNames 18#8) hj)) [1] rfl (by (repeat first|exact trivial|refine ent1 ?_)) (by exact ⟨rfl,fun j hj=>eqC_strs (evNames 18#8) hj,trivial⟩) (fun _ _=>trivial) ?_
  rintro y hs' ⟨rfl,rfl⟩
  (repeat show _∧_;first|refine yr ?_|refine yt ?_|refine yf ?_|refine yo ?_)
  refine ⟨.tup [.agg [.one (.str (evName 18#8)),.one (stC 0 (evNames 18#8)),.one (.bool (evData 18#8))],.c (.bool (evOk 18#8))],[stB (evNames 18#8)],⟨[1],⟨rfl,rfl,rfl⟩,?_⟩,rfl,rfl⟩
  (repeat first|exact trivial|refine ent1 ?_)
  exact ⟨fun j hj=>eqC_strsM (evNames 18#8) hj,trivial⟩
 have e18:decide (k=18#8)=false:=decide_eq_false h18
 (repeat show _∧_;first|refine yr ?_|refine yt ?_|refine yf ?_|refine ya e18 ?_|refine yb e18 ?_|refine yo ?_)
 by_cases h19:k=19#8
 ·subst h19
  (repeat show _∧_;first|refine yr ?_|refine yt ?_|refine yf ?_|refine yo ?_)
  refine call_same (fn_eshape0 _) [] rfl (by (repeat first|exact trivial|refine ent1 ?_)) (by (repeat first|exact trivial|refine ent1 ?_)) (fun _ _=>trivial) ?_
  rintro y hs' ⟨rfl,rfl⟩
  (repeat show _∧_;first|refine yr ?_|refine yt ?_|refine yf ?_|refine yo ?_)
  exact ⟨.tup [.agg [.one (.str (evName 19#8)),.one (stC 0 (evNames 19#8)),.one (.bool (evData 19#8))],.c (.bool (evOk 19#8))],[stB (evNames 19#8)],⟨[0],⟨rfl,rfl,rfl⟩,by (repeat first|exact trivial|refine ent1 ?_)⟩,rfl,rfl⟩
 have e19:decide (k=19#8)=false:=decide_eq_false h19
 (repeat show _∧_;first|refine yr ?_|refine yt ?_|refine yf ?_|refine ya e19 ?_|refine yb e19 ?_|refine yo ?_)
 have hk:¬ (1≤k.toNat∧k.toNat≤19):=by
  intro h
  have:k.toNat=1∨k.toNat=2∨k.toNat=3∨k.toNat=4∨k.toNat=5∨k.toNat=6∨k.toNat=7∨k.toNat=8∨k.toNat=9∨k.toNat=10∨k.toNat=11∨k.toNat=12∨k.toNat=13∨k.toNat=14∨k.toNat=15∨k.toNat=16∨k.toNat=17∨k.toNat=18∨k.toNat=19:=by omega
  rcases this with h|h|h|h|h|h|h|h|h|h|h|h|h|h|h|h|h|h|h
  ·exact h1 (BitVec.eq_of_toNat_eq h)
  ·exact h2 (BitVec.eq_of_toNat_eq h)
  ·exact h3 (BitVec.eq_of_toNat_eq h)
  ·exact h4 (BitVec.eq_of_toNat_eq h)
  ·exact h5 (BitVec.eq_of_toNat_eq h)
  ·exact h6 (BitVec.eq_of_toNat_eq h)
  ·exact h7 (BitVec.eq_of_toNat_eq h)
  ·exact h8 (BitVec.eq_of_toNat_eq h)
  ·exact h9 (BitVec.eq_of_toNat_eq h)
  ·exact h10 (BitVec.eq_of_toNat_eq h)
  ·exact h11 (BitVec.eq_of_toNat_eq h)
  ·exact h12 (BitVec.eq_of_toNat_eq h)
  ·exact h13 (BitVec.eq_of_toNat_eq h)
  ·exact h14 (BitVec.eq_of_toNat_eq h)
  ·exact h15 (BitVec.eq_of_toNat_eq h)
  ·exact h16 (BitVec.eq_of_toNat_eq h)
  ·exact h17 (BitVec.eq_of_toNat_eq h)
  ·exact h18 (BitVec.eq_of_toNat_eq h)
  ·exact h19 (BitVec.eq_of_toNat_eq h)
 have e1:evRow k.toNat=[]:=by
  unfold evRow
  split <;> first|(exfalso; omega)|rfl
 have e2:evOk k=false:=decide_eq_false hk
 have e3:evData k=false:=by
  unfold evData
  have h11:k.toNat≠11:=by omega
  have h13:k.toNat≠13:=by omega
  simp [h11,h13]
 have e4:evName k=[]:=by unfold evName; rw [e1]; rfl
 have e5:evNames k=[]:=by unfold evNames; rw [e1]; rfl
 rw [e2,e3,e4,e5]
 exact ⟨.tup [.agg [.one (.str []),.one (stC 0 []),.one (.bool false)],.c (.bool false)],[stB []],⟨[0],⟨rfl,rfl,rfl⟩,by (repeat first|exact trivial|refine ent1 ?_)⟩,rfl,rfl⟩
end Sx
end
section
namespace Ev
structure Ev where
 k:BitVec 8
 t:BitVec 64
 N:List (BitVec 64)
 D:Sha.Bs
def checkM (e:Ev):Int :=
 if evOk e.k=false then 5 else if 1125899906842624#64<e.t then 21 else if e.N.length≠(evNames e.k).length then 6
 else if 20<e.D.length then 4 else if 0<e.D.length∧evData e.k=false then 4 else if ∃ n∈e.N,4611686018427387903#64<n then 2 else 0
structure EvC where
 aN:Option Addr
 nN:Nat
 cN:Nat
 aD:Option Addr
 nD:Nat
 cD:Nat
end Ev
namespace Sx
open Go.RowKit Sha Vi Ev

abbrev evS (e:Ev) (x:EvC):List Seg:=[.one (.w8 e.k),.one (.w64 e.t),.one (.slc x.aN x.nN x.cN),.one (.slc x.aD x.nD x.cD)]
structure EvAt (W:World) (ms:List Nat) (x:EvC) (e:Ev):Prop where
 N:NsAt W ms x.aN x.nN x.cN e.N
 D:BsAt W ms x.aD x.nD x.cD e.D
theorem EvAt.later {W W':World} {ms ms':List Nat} {x:EvC} {e:Ev} (h:EvAt W ms x e) (k:Later W ms W' ms'):EvAt W' ms' x e:=⟨h.N.later k,h.D.later k⟩
theorem EvAt.nN {W:World} {ms:List Nat} {x:EvC} {e:Ev} (h:EvAt W ms x e):x.nN=e.N.length:=h.N.n1.symm
theorem EvAt.nD {W:World} {ms:List Nat} {x:EvC} {e:Ev} (h:EvAt W ms x e):x.nD=e.D.length:=h.D.n1.symm
set_option maxRecDepth 20000 in
set_option maxHeartbeats 8000000 in
theorem fn_echeck {W:World} {ms:List Nat} {x:EvC} {e:Ev} (h:EvAt W ms x e):FnR Tryd.prog tds 23 1 [[.past W ms]] [.agg (evS e x)] (fun _=>True)
  (fun y hs=>y=.a (.c (.int .i64 (checkM e)))∧hs=[[.past W ms]]):=by
 have hN:=h.N
 have hn1:=h.nN
 have hn2:=h.nD
 have hNc:=h.N.le
 have hNm:=h.N.cap
 have hDc:=h.D.le
 have hDm:=h.D.cap
 obtain ⟨aN,nN,cN,aD,nD,cD⟩:=x
 dsimp only at hN hn1 hn2 hNc hNm hDc hDm
 subst hn1; subst hn2
 refine fn_of_body tds_ok follows_ Tryd.func23 rfl (t:=.a (.agg (evS e ⟨aN,e.N.length,cN,aD,e.D.length,cD⟩))::anys (Tryd.f23.ntmps-1)) rfl (fun w r0 hr _=>?_)
 obtain ⟨x0,rfl⟩:=List.length_eq_one_iff.1 hr
 (repeat show _∧_;first|refine yr ?_|refine yt ?_|refine yf ?_|refine yo ?_)
 refine call_same (fn_eof e.k) [] rfl (by (repeat first|exact trivial|refine ent1 ?_)) trivial (fun _ _=>trivial) ?_
 rintro y hs' ⟨rfl,rfl⟩
 unfold checkM
 cases h1:evOk e.k
 ·(repeat show _∧_;first|refine yr ?_|refine yt ?_|refine yf ?_|refine yo ?_)
  exact ⟨.a (.c (.int .i64 5)),[[.past W ms]],⟨[0],⟨rfl,rfl,rfl⟩,by (repeat first|exact trivial|refine ent1 ?_)⟩,rfl,rfl⟩
 rw [if_neg (by decide)]
 (repeat show _∧_;first|refine yr ?_|refine yt ?_|refine yf ?_|refine yo ?_)
 by_cases h2:1125899906842624#64<e.t
 ·have e2:decide (1125899906842624#64<e.t)=true:=decide_eq_true h2
  rw [if_pos h2]
  (repeat show _∧_;first|refine yr ?_|refine yt ?_|refine yf ?_|refine ya e2 ?_|refine yb e2 ?_|refine yo ?_)
  exact ⟨.a (.c (.int .i64 21)),[[.past W ms]],⟨[0],⟨rfl,rfl,rfl⟩,by (repeat first|exact trivial|refine ent1 ?_)⟩,rfl,rfl⟩
 have e2:decide (1125899906842624#64<e.t)=false:=decide_eq_false h2
 rw [if_neg h2]
 (repeat show _∧_;first|refine yr ?_|refine yt ?_|refine yf ?_|refine ya e2 ?_|refine yb e2 ?_|refine yo ?_)
 by_cases h3:e.N.length≠(evNames e.k).length
 ·have e3:decide ((e.N.length:Int)≠((evNames e.k).length:Int))=true:=decide_eq_true (by omega)
  rw [if_pos h3]
  (repeat show _∧_;first|refine yr ?_|refine yt ?_|refine yf ?_|refine ya e3 ?_|refine yb e3 ?_|refine yo ?_)
  exact ⟨.a (.c (.int .i64 6)),[[.past W ms]],⟨[0],⟨rfl,rfl,rfl⟩,by (repeat first|exact trivial|refine ent1 ?_)⟩,rfl,rfl⟩
 have e3:decide ((e.N.length:Int)≠((evNames e.k).length:Int))=false:=decide_eq_false (by omega)
 rw [if_neg h3]
 (repeat show _∧_;first|refine yr ?_|refine yt ?_|refine yf ?_|refine ya e3 ?_|refine yb e3 ?_|refine yo ?_)
 by_cases h4:20<e.D.length
 ·have e4:decide ((20:Int)<(e.D.length:Int))=true:=decide_eq_true (by omega)
  rw [if_pos h4]
  (repeat show _∧_;first|refine yr ?_|refine yt ?_|refine yf ?_|refine ya e4 ?_|refine yb e4 ?_|refine yo ?_)
  exact ⟨.a (.c (.int .i64 4)),[[.past W ms]],⟨[0],⟨rfl,rfl,rfl⟩,by (repeat first|exact trivial|refine ent1 ?_)⟩,rfl,rfl⟩
 have e4:decide ((20:Int)<(e.D.length:Int))=false:=decide_eq_false (by omega)
 rw [if_neg h4]
 (repeat show _∧_;first|refine yr ?_|refine yt ?_|refine yf ?_|refine ya e4 ?_|refine yb e4 ?_|refine yo ?_)
 by_cases h5:0<e.D.length
 ·have e5:decide ((0:Int)<(e.D.length:Int))=true:=decide_eq_true (by omega)
  cases h6:evData e.k
  ·rw [if_pos ⟨h5,rfl⟩]
   (repeat show _∧_;first|refine yr ?_|refine yt ?_|refine yf ?_|refine ya e5 ?_|refine yb e5 ?_|refine yo ?_)
   exact ⟨.a (.c (.int .i64 4)),[[.past W ms]],⟨[0],⟨rfl,rfl,rfl⟩,by (repeat first|exact trivial|refine ent1 ?_)⟩,rfl,rfl⟩
  ·rw [if_neg (fun hc=>Bool.noConfusion hc.2)]
   (repeat show _∧_;first|refine yr ?_|refine yt ?_|refine yf ?_|refine ya e5 ?_|refine yb e5 ?_|refine yo ?_)
   refine .inl ⟨Nat,fun i=>⟨[.any,.any,.any,.any,.any,.any,.any,.any,.any,.any,.any,.any,.any,.any,.any,.any,.any,.any,.any,.any,.any,.any,.any,.any,.any,.any,.any,.any,.any,.any,.any,.any,.any,.any,.any,.any,.any,.any,.any,.any,.any,.any,.any,.a (.c (.slc aN e.N.length cN)),.a (.c (.int .i64 (↑e.N.length))),.a (.c (.int .i64 (↑i))),.any,.any,.any,.any,.any,.any],[[.past W ms]]⟩,fun i=>i≤e.N.length∧∀ j,j<i→∀ n,e.N[j]?=some n→¬ 4611686018427387903#64<n,fun i=>e.N.length-i,⟨0,[0],⟨⟨rfl,rfl,rfl⟩,by (repeat first|exact trivial|refine ent1 ?_)⟩,Nat.zero_le _,fun j hj=>absurd hj (Nat.not_lt_zero _)⟩,fun i ⟨hi,hall⟩=>⟨fun hlt=>?_,fun hge=>?_⟩⟩
   ·have hlt:i<e.N.length:=by have:=of_decide_eq_true hlt; omega
    obtain ⟨n,hn⟩:∃ n,e.N[i]?=some n:=⟨_,List.getElem?_eq_getElem hlt⟩
    cases aN with
    | none=>have:=hN.nil_.1; omega
    | some A =>
    (repeat show _∧_;first|refine yr ?_|refine yt ?_|refine yf ?_|refine yo ?_)
    refine loadR (i:=0) rfl (hN.im A rfl (by omega)) (j:=i*1) (map_get? (by rw [Nat.mul_one]; exact hn)) ?_
    (repeat show _∧_;first|refine yr ?_|refine yt ?_|refine yf ?_|refine yo ?_)
    by_cases hb:4611686018427387903#64<n
    ·have eb:decide (4611686018427387903#64<n)=true:=decide_eq_true hb
     rw [if_pos ⟨n,List.mem_of_getElem? hn,hb⟩]
     (repeat show _∧_;first|refine yr ?_|refine yt ?_|refine yf ?_|refine ya eb ?_|refine yb eb ?_|refine yo ?_)
     exact ⟨.a (.c (.int .i64 2)),[[.past W ms]],⟨[0],⟨rfl,rfl,rfl⟩,by (repeat first|exact trivial|refine ent1 ?_)⟩,rfl,rfl⟩
    ·have eb:decide (4611686018427387903#64<n)=false:=decide_eq_false hb
     (repeat show _∧_;first|refine yr ?_|refine yt ?_|refine yf ?_|refine ya eb ?_|refine yb eb ?_|refine yo ?_)
     refine ⟨i+1,[0],⟨⟨rfl,rfl,rfl⟩,by (repeat first|exact trivial|refine ent1 ?_)⟩,⟨by omega,fun j hj m hm=>?_⟩,by dsimp only; omega⟩
     by_cases hji:j=i
     ·subst hji; rw [hn] at hm; injection hm with hm; subst hm; exact hb
     ·exact hall j (by omega) m hm
   ·have hge:i=e.N.length:=by have:=of_decide_eq_false hge; omega
    rw [if_neg (by
     rintro ⟨n,hn,hb⟩
     obtain ⟨j,hj,rfl⟩:=List.mem_iff_getElem.1 hn
     exact hall j (by omega) _ (List.getElem?_eq_getElem hj) hb)]
    (repeat show _∧_;first|refine yr ?_|refine yt ?_|refine yf ?_|refine yo ?_)
    exact ⟨.a (.c (.int .i64 0)),[[.past W ms]],⟨[0],⟨rfl,rfl,rfl⟩,by (repeat first|exact trivial|refine ent1 ?_)⟩,rfl,rfl⟩
 ·have e5:decide ((0:Int)<(e.D.length:Int))=false:=decide_eq_false (by omega)
  rw [if_neg (fun hc=>h5 hc.1)]
  (repeat show _∧_;first|refine yr ?_|refine yt ?_|refine yf ?_|refine ya e5 ?_|refine yb e5 ?_|refine yo ?_)
  refine .inl ⟨Nat,fun i=>⟨[.any,.any,.any,.any,.any,.any,.any,.any,.any,.any,.any,.any,.any,.any,.any,.any,.any,.any,.any,.any,.any,.any,.any,.any,.any,.any,.any,.any,.any,.any,.any,.any,.any,.any,.any,.any,.any,.any,.any,.any,.any,.any,.any,.a (.c (.slc aN e.N.length cN)),.a (.c (.int .i64 (↑e.N.length))),.a (.c (.int .i64 (↑i))),.any,.any,.any,.any,.any,.any],[[.past W ms]]⟩,fun i=>i≤e.N.length∧∀ j,j<i→∀ n,e.N[j]?=some n→¬ 4611686018427387903#64<n,fun i=>e.N.length-i,⟨0,[0],⟨⟨rfl,rfl,rfl⟩,by (repeat first|exact trivial|refine ent1 ?_)⟩,Nat.zero_le _,fun j hj=>absurd hj (Nat.not_lt_zero _)⟩,fun i ⟨hi,hall⟩=>⟨fun hlt=>?_,fun hge=>?_⟩⟩
  ·have hlt:i<e.N.length:=by have:=of_decide_eq_true hlt; omega
   obtain ⟨n,hn⟩:∃ n,e.N[i]?=some n:=⟨_,List.getElem?_eq_getElem hlt⟩
   cases aN with
   | none=>have:=hN.nil_.1; omega
   | some A =>
   (repeat show _∧_;first|refine yr ?_|refine yt ?_|refine yf ?_|refine yo ?_)
   refine loadR (i:=0) rfl (hN.im A rfl (by omega)) (j:=i*1) (map_get? (by rw [Nat.mul_one]; exact hn)) ?_
   (repeat show _∧_;first|refine yr ?_|refine yt ?_|refine yf ?_|refine yo ?_)
   by_cases hb:4611686018427387903#64<n
   ·have eb:decide (4611686018427387903#64<n)=true:=decide_eq_true hb
    rw [if_pos ⟨n,List.mem_of_getElem? hn,hb⟩]
    (repeat show _∧_;first|refine yr ?_|refine yt ?_|refine yf ?_|refine ya eb ?_|refine yb eb ?_|refine yo ?_)
    exact ⟨.a (.c (.int .i64 2)),[[.past W ms]],⟨[0],⟨rfl,rfl,rfl⟩,by (repeat first|exact trivial|refine ent1 ?_)⟩,rfl,rfl⟩
   ·have eb:decide (4611686018427387903#64<n)=false:=decide_eq_false hb
    (repeat show _∧_;first|refine yr ?_|refine yt ?_|refine yf ?_|refine ya eb ?_|refine yb eb ?_|refine yo ?_)
    refine ⟨i+1,[0],⟨⟨rfl,rfl,rfl⟩,by (repeat first|exact trivial|refine ent1 ?_)⟩,⟨by omega,fun j hj m hm=>?_⟩,by dsimp only; omega⟩
    by_cases hji:j=i
    ·subst hji; rw [hn] at hm; injection hm with hm; subst hm; exact hb
    ·exact hall j (by omega) m hm
  ·have hge:i=e.N.length:=by have:=of_decide_eq_false hge; omega
   rw [if_neg (by
    rintro ⟨n,hn,hb⟩
    obtain ⟨j,hj,rfl⟩:=List.mem_iff_getElem.1 hn
    exact hall j (by omega) _ (List.getElem?_eq_getElem hj) hb)]
   (repeat show _∧_;first|refine yr ?_|refine yt ?_|refine yf ?_|refine yo ?_)
   exact ⟨.a (.c (.int .i64 0)),[[.past W ms]],⟨[0],⟨rfl,rfl,rfl⟩,by (repeat first|exact trivial|refine ent1 ?_)⟩,rfl,rfl⟩
end Sx
end
section
namespace Qj
open Sha Js Ev

def nsB (l:List UInt8):Bs:=l.map UInt8.toBitVec
theorem U8_nsB (l:List UInt8):U8 (nsB l)=l:=by
 unfold U8 nsB
 rw [List.map_map]
 exact List.map_id l
def tNum (n:BitVec 64):JT:=.mk 3#8 n [] [] []
def tText (s:Bs):JT:=.mk 4#8 0#64 s [] []
def hexB (D:Bs):Bs:=D.flatMap fun c=>[hexd (c.toNat / 16),hexd (c.toNat % 16)]
def idB:Bs:=[105#8,100#8]
def timeB:Bs:=[116#8,105#8,109#8,101#8]
def nameB:Bs:=[110#8,97#8,109#8,101#8]
def dataB:Bs:=[100#8,97#8,116#8,97#8]
def verB:Bs:=[113#8,108#8,111#8,103#8,95#8,118#8,101#8,114#8,115#8,105#8,111#8,110#8]
def evsB:Bs:=[101#8,118#8,101#8,110#8,116#8,115#8]
def v03B:Bs:=[48#8,46#8,51#8]
def evNs (k:BitVec 8):List Bs:=(evNames k).map nsB
def evNm (k:BitVec 8):Bs:=nsB (evName k)
def dataNs (k:BitVec 8):List Bs:=evNs k++if evData k=true then [idB] else []
def dataL (e:Ev):List JT:=e.N.map tNum++if evData e.k=true then [tText (hexB e.D)] else []
def dataJ (e:Ev):JT:=.mk 6#8 0#64 [] (dataL e) (dataNs e.k)
def evJ (e:Ev):JT:=.mk 6#8 0#64 [] [tNum e.t,tText (evNm e.k),dataJ e] [timeB,nameB,dataB]
def rootJ (es:List Ev):JT:=.mk 6#8 0#64 [] [tText v03B,.mk 5#8 0#64 [] (es.map evJ) []] [verB,evsB]
def idxN (s:Bs):List Bs→Option Nat
 | []=>none
 | x::l=>if s=x then some 0 else (idxN s l).map (·+1)
def memJ (v:JT) (s:Bs) (k:BitVec 8):Option JT:=match idxN s v.ns with
 | none=>none
 | some i=>match v.l[i]? with
  | none=>none
  | some x=>if x.k=k then some x else none
def hasJ (v:JT) (m:Nat):Bool:=decide (v.k=6#8) && (decide (v.ns.length=m) && decide (v.l.length=m))
def dig1 (c:BitVec 8):Option (BitVec 8):=if 48≤c.toNat∧c.toNat≤57 then some (c-48#8) else if 97≤c.toNat∧c.toNat≤102 then some (c-97#8+10#8) else none
def unhex:Bs→Option Bs
 | []=>some []
 | [_]=>none
 | a::b::l=>match dig1 a,dig1 b with
  | some x,some y=>(unhex l).map ((x <<< 4 ||| y)::·)
  | _,_=>none
def namedF (s:Bs):Nat→Nat→Option (BitVec 8)
 | 0,_=>none
 | f+1,k=>if evNm (BitVec.ofNat 8 k)=s then some (BitVec.ofNat 8 k) else namedF s f (k+1)
def namedM (s:Bs):Option (BitVec 8):=namedF s 19 1
def nums (v:JT):List Bs→Option (List (BitVec 64))
 | []=>some []
 | s::l=>match memJ v s 3#8 with
  | none=>none
  | some x=>(nums v l).map (x.n::·)
def fillM (k:BitVec 8) (v:JT):Option (List (BitVec 64) × Bs) :=
 if hasJ v (dataNs k).length=false then none else match nums v (evNs k) with
  | none=>none
  | some N=>if evData k=true then match memJ v idB 4#8 with
    | none=>none
    | some x=>(unhex x.s).map fun D=>(N,D)
   else some (N,[])
def evOf (v:JT):Ev ⊕ Int:=match memJ v timeB 3#8,memJ v nameB 4#8,memJ v dataB 6#8 with
 | some a,some b,some d=>if hasJ v 3=false then .inr 4 else match namedM b.s with
  | none=>.inr 5
  | some k=>match fillM k d with
   | none=>.inr 4
   | some (N,D)=>if checkM ⟨k,a.n,N,D⟩=0 then .inl ⟨k,a.n,N,D⟩ else .inr (checkM ⟨k,a.n,N,D⟩)
 | _,_,_=>.inr 4
def follM (e:Ev) (t:BitVec 64) (last:Bool):Int:=if e.t<t then 21 else if e.k=19#8∧last=false then 10 else 0
def prtF:List Ev→BitVec 64→Int
 | [],_=>0
 | e::l,t=>if checkM e≠0 then checkM e else if follM e t l.isEmpty≠0 then follM e t l.isEmpty else prtF l e.t
def prtM (es:List Ev):Int:=if 2048<es.length then 7 else prtF es 0#64
end Qj
end
section
namespace Sx
open Go.RowKit Sha Vi Js

structure JC where
 a:Option Addr
 m:Nat
 c:Nat
 b:Option Addr
 p:Nat
 q:Nat
def jvS (v:JT) (x:JC):List Seg:=[.one (.w8 v.k),.one (.w64 v.n),.one (.str (U8 v.s)),.one (.slc x.a x.m x.c),.one (.slc x.b x.p x.q)]
def jc0:JC:=⟨none,0,0,none,0,0⟩
def TAt (W:World) (ms:List Nat):Nat→JT→JC→Prop
 | 0,v,x=>v.l=[]∧x.m=0∧StAt W ms x.b x.p x.q (v.ns.map U8)
 | d+1,v,x=>(v.l.length=x.m∧x.m≤x.c∧x.m≤9223372036854775807∧(x.a=none→x.c=0)∧∀ A,x.a=some A→x.m≠0→Unm W ms A∧∀ j e,v.l[j]?=some e→∃ y,ImAt W ms (A.add (j*5)) (flat (jvS e y))∧TAt W ms d e y)∧StAt W ms x.b x.p x.q (v.ns.map U8)
theorem TAt.later {W W':World} {ms ms':List Nat} (k:Later W ms W' ms'):∀ {d:Nat} {v:JT} {x:JC},TAt W ms d v x→TAt W' ms' d v x
 | 0,v,x,⟨h1,h2,h3⟩=>⟨h1,h2,h3.later k⟩
 | d+1,v,x,⟨⟨h1,h2,h3,h4,h5⟩,h6⟩=>⟨⟨h1,h2,h3,h4,fun A hA hm=>⟨((h5 A hA hm).1).later k,fun j e he=>let ⟨y,y1,y2⟩:=(h5 A hA hm).2 j e he; ⟨y,y1.later k,TAt.later k y2⟩⟩⟩,h6.later k⟩
theorem TAt.ns {W:World} {ms:List Nat}:∀ {d:Nat} {v:JT} {x:JC},TAt W ms d v x→StAt W ms x.b x.p x.q (v.ns.map U8)
 | 0,v,x,h=>h.2.2
 | d+1,v,x,h=>h.2
theorem TAt.len {W:World} {ms:List Nat}:∀ {d:Nat} {v:JT} {x:JC},TAt W ms d v x→v.l.length=x.m
 | 0,v,x,h=>by rw [h.1,h.2.1]; rfl
 | d+1,v,x,h=>h.1.1
theorem TAt.leaf {W:World} {ms:List Nat} {v:JT} (hl:v.l=[]) (hn:v.ns=[]):∀ d,TAt W ms d v jc0
 | 0=>⟨hl,rfl,by rw [hn]; exact SlAt.nul⟩
 | d+1=>⟨⟨by rw [hl]; rfl,Nat.le_refl _,by show 0≤_; omega,fun _=>rfl,fun A hA=>by cases hA⟩,by rw [hn]; exact SlAt.nul⟩
structure RowJ (W:World) (ms:List Nat) (d:Nat) (cs:List SC) (l:List JT):Prop where
 len:cs.length=l.length*5
 raw:∀ x∈cs,x.raw=x
 elt:∀ j e,l[j]?=some e→∃ y,(∀ (i:Nat) (x:SC),(flat (jvS e y))[i]?=some x→cs[j*5+i]?=some x)∧TAt W ms d e y
theorem RowJ.later {W W':World} {ms ms':List Nat} (k:Later W ms W' ms') {d:Nat} {cs:List SC} {l:List JT} (h:RowJ W ms d cs l):RowJ W' ms' d cs l :=
 ⟨h.len,h.raw,fun j e he=>let ⟨y,y1,y2⟩:=h.elt j e he; ⟨y,y1,y2.later k⟩⟩
theorem RowJ.nil {W:World} {ms:List Nat} {d:Nat}:RowJ W ms d [] []:=⟨rfl,by simp,fun j e he=>by simp at he⟩
theorem flat_jvS (v:JT) (x:JC):flat (jvS v x)=[.w8 v.k,.w64 v.n,.str (U8 v.s),.slc x.a x.m x.c,.slc x.b x.p x.q]:=rfl
theorem RowJ.snoc {W:World} {ms:List Nat} {d:Nat} {cs:List SC} {l:List JT} (h:RowJ W ms d cs l) {v:JT} {x:JC} (k:TAt W ms d v x):RowJ W ms d (cs++flat (jvS v x)) (l++[v]):=by
 refine ⟨by rw [List.length_append,List.length_append,h.len]; show l.length*5+5=(l.length+1)*5; omega,fun y hy=>?_,fun j e he=>?_⟩
 ·rcases List.mem_append.1 hy with hy|hy
  ·exact h.raw y hy
  ·rw [flat_jvS] at hy
   simp only [List.mem_cons,List.not_mem_nil,or_false] at hy
   rcases hy with rfl|rfl|rfl|rfl|rfl <;> rfl
 ·rcases Nat.lt_or_ge j l.length with hj|hj
  ·rw [List.getElem?_append_left hj] at he
   obtain ⟨y,y1,y2⟩:=h.elt j e he
   refine ⟨y,fun i z hz=>?_,y2⟩
   have:=y1 i z hz
   rw [List.getElem?_append_left ((List.getElem?_eq_some_iff.1 this).1)]
   exact this
  ·rw [List.getElem?_append_right hj] at he
   obtain ⟨hj0,rfl⟩:j-l.length=0∧v=e:=by
    cases e0:j-l.length with
    | zero=>rw [e0] at he; simp at he; exact ⟨rfl,he⟩
    | succ n=>rw [e0] at he; simp at he
   obtain rfl:j=l.length:=by omega
   refine ⟨x,fun i z hz=>?_,k⟩
   rw [← h.len,List.getElem?_append_right (by omega),Nat.add_sub_cancel_left]
   exact hz
end Sx
end
section
namespace Sx
open Go.RowKit
variable {C : Cx}

def rzT (F:Nat→Bool) (α:Nat→Addr):List SV→List SV
 | []=>[]
 | x::r=>x.rz F α::rzT F α r
theorem rzT_len (F:Nat→Bool) (α:Nat→Addr):∀ l:List SV,(rzT F α l).length=l.length
 | []=>rfl
 | _::r=>congrArg Nat.succ (rzT_len F α r)
theorem rzT_get {F:Nat→Bool} {α:Nat→Addr}:∀ {l:List SV} {d:Nat} {y:SV},(rzT F α l)[d]?=some y→∃ x,l[d]?=some x∧y=x.rz F α
 | [],d,y,e=>by simp [rzT] at e
 | x::r,0,y,e=>by simp [rzT] at e; exact ⟨x,rfl,e.symm⟩
 | x::r,d+1,y,e=>by
  obtain ⟨z,h1,h2⟩:=rzT_get (l:=r) (d:=d) (y:=y) (by simpa [rzT] using e)
  exact ⟨z,by simpa using h1,h2⟩
end Sx
end
section
namespace Sx
open Go.RowKit Sha Vi Js

theorem len1' {α:Type}:∀ {l:List α},l.length=1→∃ a,l=[a]
 | [a],_=>⟨a,rfl⟩
end Sx
end
section
namespace Vi
open Sha
def partL (n:BitVec 64) (k j:Nat):Bs:=tab j fun i=>byteN n (k-1-i)
@[simp] theorem partL_len (n:BitVec 64) (k j:Nat):(partL n k j).length=j:=tab_len _ _
theorem L_part {n:BitVec 64} {k j i:Nat} (h:i<j):L (partL n k j) i=byteN n (k-1-i):=L_tab h
end Vi
namespace Sx
open Sha Vi

abbrev lsC (b:Bs) (c:Nat):List Seg:=[.row c (bytesF b.length (L b))]
end Sx
end
section
namespace Sx
open Go.RowKit Sha Vi Js

theorem rowl {g:Nat→SC} {l:Bs} (i:Nat) (hi:i<l.length) (e:g i=nthC (l.map SC.w8) i):g i=.w8 (L l i):=e.trans (nthC_w8 l i hi)
theorem tail_u8 (m:Nat):128#8 ||| (BitVec.ofNat 8 m &&& 63#8)=b8 (128+m % 64):=by
 have key:∀ n:_root_.Fin 256,128#8 ||| (BitVec.ofNat 8 n.val &&& 63#8)=b8 (128+n.val % 64):=by decide +kernel
 have h:=key ⟨m % 256,by omega⟩
 have e:BitVec.ofNat 8 (m % 256)=BitVec.ofNat 8 m:=by
  apply BitVec.eq_of_toNat_eq
  rw [BitVec.toNat_ofNat,BitVec.toNat_ofNat]; omega
 rw [show (⟨m % 256,by omega⟩:_root_.Fin 256).val=m % 256 from rfl,e] at h
 rw [h,show m % 256 % 64=m % 64 by omega]
theorem div_i (v n:Nat):(v:Int) / 2 ^ n=((v / 2 ^ n:Nat):Int):=by push_cast; rfl
theorem of_i (v:Nat):BitVec.ofInt 8 (v:Int)=BitVec.ofNat 8 v:=BitVec.ofInt_natCast 8 v
theorem enc_two {v:Nat} (h1:128≤v) (h2:v<2048):enc v=[192#8 ||| BitVec.ofInt 8 ((v:Int) / 2 ^ 6),128#8 ||| (BitVec.ofInt 8 (v:Int) &&& 63#8)]:=by
 have k1:∀ n:_root_.Fin 32,192#8 ||| BitVec.ofNat 8 n.val=b8 (192+n.val):=by decide +kernel
 have h3:=k1 ⟨v / 2 ^ 6,by omega⟩
 rw [div_i,of_i,of_i,tail_u8,h3]
 unfold enc
 rw [if_neg (by omega),if_pos h2]
theorem enc_three {v:Nat} (h1:2048≤v) (h2:v<65536):enc v=[224#8 ||| BitVec.ofInt 8 ((v:Int) / 2 ^ 12),128#8 ||| (BitVec.ofInt 8 ((v:Int) / 2 ^ 6) &&& 63#8),128#8 ||| (BitVec.ofInt 8 (v:Int) &&& 63#8)]:=by
 have k1:∀ n:_root_.Fin 16,224#8 ||| BitVec.ofNat 8 n.val=b8 (224+n.val):=by decide +kernel
 have h3:=k1 ⟨v / 2 ^ 12,by omega⟩
 rw [div_i,div_i,of_i,of_i,of_i,tail_u8,tail_u8,h3]
 unfold enc
 rw [if_neg (by omega),if_neg (by omega),if_pos h2]
theorem enc_four {v:Nat} (h1:65536≤v) (h2:v≤1114111):enc v=[240#8 ||| BitVec.ofInt 8 ((v:Int) / 2 ^ 18),128#8 ||| (BitVec.ofInt 8 ((v:Int) / 2 ^ 12) &&& 63#8),128#8 ||| (BitVec.ofInt 8 ((v:Int) / 2 ^ 6) &&& 63#8),128#8 ||| (BitVec.ofInt 8 (v:Int) &&& 63#8)]:=by
 have k1:∀ n:_root_.Fin 8,240#8 ||| BitVec.ofNat 8 n.val=b8 (240+n.val):=by decide +kernel
 have h3:=k1 ⟨v / 2 ^ 18,by omega⟩
 rw [div_i,div_i,div_i,of_i,of_i,of_i,of_i,tail_u8,tail_u8,tail_u8,h3]
 unfold enc
 rw [if_neg (by omega),if_neg (by omega),if_neg (by omega)]
theorem enc_one' {v:Nat} (h1:v<128):enc v=[BitVec.ofInt 8 (v:Int)]:=by
 rw [of_i]; unfold enc; rw [if_pos h1]; rfl
theorem le32 {v c:Nat} (hv:v≤1114111) (hc:c<4294967296):decide (BitVec.ofInt 32 (v:Int)≤BitVec.ofNat 32 c)=decide (v≤c):=by
 refine decide_eq_decide.2 ?_
 rw [BitVec.ofInt_natCast,BitVec.le_def,BitVec.toNat_ofNat,BitVec.toNat_ofNat,Nat.mod_eq_of_lt (by omega),Nat.mod_eq_of_lt (by omega)]
theorem lt32 {v c:Nat} (hv:v≤1114111) (hc:c<4294967296):decide (BitVec.ofInt 32 (v:Int)<BitVec.ofNat 32 c)=decide (v<c):=by
 refine decide_eq_decide.2 ?_
 rw [BitVec.ofInt_natCast,BitVec.lt_def,BitVec.toNat_ofNat,BitVec.toNat_ofNat,Nat.mod_eq_of_lt (by omega),Nat.mod_eq_of_lt (by omega)]
theorem gt32 {v c:Nat} (hv:v≤1114111) (hc:c<4294967296):decide (BitVec.ofNat 32 c<BitVec.ofInt 32 (v:Int))=decide (c<v):=by
 refine decide_eq_decide.2 ?_
 rw [BitVec.ofInt_natCast,BitVec.lt_def,BitVec.toNat_ofNat,BitVec.toNat_ofNat,Nat.mod_eq_of_lt (by omega),Nat.mod_eq_of_lt (by omega)]
set_option maxRecDepth 20000 in
set_option maxHeartbeats 8000000 in
theorem fn_arunen (b:Bs) (c:Nat) (hb:b.length≤70368744177664) (hc:b.length≤c) {v:Nat} (hv:scal v) (hn:128≤v):Fn Tryd.prog tds 80 [lsC b c] [.c (.sl 0 0 0 b.length c),.c (.int .i32 (v:Int))] (fun _=>True)
  (fun x hs=>∃ c',(b++enc v).length≤c'∧x=.a (.c (.sl 1 0 0 (b++enc v).length c'))∧hs=[[],lsC (b++enc v) c']):=by
 refine fn_of_body tds_ok follows_ Tryd.func80 rfl (t:=.a (.c (.sl 0 0 0 b.length c))::.a (.c (.int .i32 (v:Int)))::anys (Tryd.f80.ntmps-2)) rfl (fun w r0 hr _=>?_)
 obtain ⟨x0,rfl⟩:=len1' hr
 have hm:v≤1114111:=by unfold scal at hv; omega
 by_cases h1:v≤2047
 ·have e1:decide (BitVec.ofInt 32 (v:Int)≤2047#32)=true:=(le32 hm (by decide)).trans (decide_eq_true h1)
  have hE:=enc_two (v:=v) hn (by omega)
  have hEl:(enc v).length=2:=by rw [hE]; rfl
  have hbl:(b++enc v).length=b.length+2:=by rw [List.length_append,hEl]
  (repeat show _∧_;first|refine yr ?_|refine yt ?_|refine yf ?_|refine ya e1 ?_|refine yb e1 ?_|refine yo ?_)
  refine And.intro ⟨by omega,by simp only [scale]; omega,by show (b.length+2)*1≤140737488355328; omega⟩ ?_
  intro c' hc'
  (repeat show _∧_;first|refine yr ?_|refine yt ?_|refine yf ?_|refine yo ?_)
  refine ⟨.a (.c (.sl 1 0 0 (b++enc v).length c')),_,⟨[0,2],⟨rfl,rfl,rfl⟩,?_⟩,c',by rw [List.length_append]; omega,rfl,rfl⟩
  (repeat first|exact trivial|refine ent1 ?_)
  refine ⟨fun j' hj'=>eqC_bytes (fun i hi=>?_) j',trivial⟩
  have hi':i<b.length+2:=by rw [List.length_append] at hi; omega
  rw [hE]
  refine app_row (l:=b) (n:=b.length) (k:=2) rfl ?_ (fun i hi=>bytesF_lt hi) (fun i hi=>?_) i hi'
  ·rfl
  ·exact rowl i (by exact hi) rfl
 have e1:decide (BitVec.ofInt 32 (v:Int)≤2047#32)=false:=(le32 hm (by decide)).trans (decide_eq_false h1)
 by_cases h2:v<55296
 ·have e2:decide (BitVec.ofInt 32 (v:Int)<55296#32)=true:=(lt32 hm (by decide)).trans (decide_eq_true h2)
  have hE:=enc_three (v:=v) (by omega) (by omega)
  have hEl:(enc v).length=3:=by rw [hE]; rfl
  have hbl:(b++enc v).length=b.length+3:=by rw [List.length_append,hEl]
  (repeat show _∧_;first|refine yr ?_|refine yt ?_|refine yf ?_|refine ya e1 ?_|refine yb e1 ?_|refine ya e2 ?_|refine yb e2 ?_|refine yo ?_)
  refine And.intro ⟨by omega,by simp only [scale]; omega,by show (b.length+3)*1≤140737488355328; omega⟩ ?_
  intro c' hc'
  (repeat show _∧_;first|refine yr ?_|refine yt ?_|refine yf ?_|refine yo ?_)
  refine ⟨.a (.c (.sl 1 0 0 (b++enc v).length c')),_,⟨[0,2],⟨rfl,rfl,rfl⟩,?_⟩,c',by rw [List.length_append]; omega,rfl,rfl⟩
  (repeat first|exact trivial|refine ent1 ?_)
  refine ⟨fun j' hj'=>eqC_bytes (fun i hi=>?_) j',trivial⟩
  have hi':i<b.length+3:=by rw [List.length_append] at hi; omega
  rw [hE]
  refine app_row (l:=b) (n:=b.length) (k:=3) rfl ?_ (fun i hi=>bytesF_lt hi) (fun i hi=>?_) i hi'
  ·rfl
  ·exact rowl i (by exact hi) rfl
 have e2:decide (BitVec.ofInt 32 (v:Int)<55296#32)=false:=(lt32 hm (by decide)).trans (decide_eq_false h2)
 have h3:57343<v:=by unfold scal at hv; omega
 have e3:decide (57343#32<BitVec.ofInt 32 (v:Int))=true:=(gt32 hm (by decide)).trans (decide_eq_true h3)
 by_cases h4:v≤65535
 ·have e4:decide (BitVec.ofInt 32 (v:Int)≤65535#32)=true:=(le32 hm (by decide)).trans (decide_eq_true h4)
  have hE:=enc_three (v:=v) (by omega) (by omega)
  have hEl:(enc v).length=3:=by rw [hE]; rfl
  have hbl:(b++enc v).length=b.length+3:=by rw [List.length_append,hEl]
  (repeat show _∧_;first|refine yr ?_|refine yt ?_|refine yf ?_|refine ya e1 ?_|refine yb e1 ?_|refine ya e2 ?_|refine yb e2 ?_|refine ya e3 ?_|refine yb e3 ?_|refine ya e4 ?_|refine yb e4 ?_|refine yo ?_)
  refine And.intro ⟨by omega,by simp only [scale]; omega,by show (b.length+3)*1≤140737488355328; omega⟩ ?_
  intro c' hc'
  (repeat show _∧_;first|refine yr ?_|refine yt ?_|refine yf ?_|refine yo ?_)
  refine ⟨.a (.c (.sl 1 0 0 (b++enc v).length c')),_,⟨[0,2],⟨rfl,rfl,rfl⟩,?_⟩,c',by rw [List.length_append]; omega,rfl,rfl⟩
  (repeat first|exact trivial|refine ent1 ?_)
  refine ⟨fun j' hj'=>eqC_bytes (fun i hi=>?_) j',trivial⟩
  have hi':i<b.length+3:=by rw [List.length_append] at hi; omega
  rw [hE]
  refine app_row (l:=b) (n:=b.length) (k:=3) rfl ?_ (fun i hi=>bytesF_lt hi) (fun i hi=>?_) i hi'
  ·rfl
  ·exact rowl i (by exact hi) rfl
 have e4:decide (BitVec.ofInt 32 (v:Int)≤65535#32)=false:=(le32 hm (by decide)).trans (decide_eq_false h4)
 have e5:decide (65535#32<BitVec.ofInt 32 (v:Int))=true:=(gt32 hm (by decide)).trans (decide_eq_true (by omega))
 have e6:decide (BitVec.ofInt 32 (v:Int)≤1114111#32)=true:=(le32 hm (by decide)).trans (decide_eq_true hm)
 have hE:=enc_four (v:=v) (by omega) hm
 have hEl:(enc v).length=4:=by rw [hE]; rfl
 have hbl:(b++enc v).length=b.length+4:=by rw [List.length_append,hEl]
 (repeat show _∧_;first|refine yr ?_|refine yt ?_|refine yf ?_|refine ya e1 ?_|refine yb e1 ?_|refine ya e2 ?_|refine yb e2 ?_|refine ya e3 ?_|refine yb e3 ?_|refine ya e4 ?_|refine yb e4 ?_|refine ya e5 ?_|refine yb e5 ?_|refine ya e6 ?_|refine yb e6 ?_|refine yo ?_)
 refine And.intro ⟨by omega,by simp only [scale]; omega,by show (b.length+4)*1≤140737488355328; omega⟩ ?_
 intro c' hc'
 (repeat show _∧_;first|refine yr ?_|refine yt ?_|refine yf ?_|refine yo ?_)
 refine ⟨.a (.c (.sl 1 0 0 (b++enc v).length c')),_,⟨[0,2],⟨rfl,rfl,rfl⟩,?_⟩,c',by rw [List.length_append]; omega,rfl,rfl⟩
 (repeat first|exact trivial|refine ent1 ?_)
 refine ⟨fun j' hj'=>eqC_bytes (fun i hi=>?_) j',trivial⟩
 have hi':i<b.length+4:=by rw [List.length_append] at hi; omega
 rw [hE]
 refine app_row (l:=b) (n:=b.length) (k:=4) rfl ?_ (fun i hi=>bytesF_lt hi) (fun i hi=>?_) i hi'
 ·rfl
 ·exact rowl i (by exact hi) rfl
set_option maxRecDepth 20000 in
set_option maxHeartbeats 8000000 in
theorem fn_arune (b:Bs) (c:Nat) (hb:b.length≤70368744177664) (hc:b.length≤c) {v:Nat} (hv:scal v):Fn Tryd.prog tds 70 [lsC b c] [.c (.sl 0 0 0 b.length c),.c (.int .i32 (v:Int))] (fun _=>True)
  (fun x hs=>∃ c',(b++enc v).length≤c'∧x=.a (.c (.sl 1 0 0 (b++enc v).length c'))∧hs=[[],lsC (b++enc v) c']):=by
 refine fn_of_body tds_ok follows_ Tryd.func70 rfl (t:=.a (.c (.sl 0 0 0 b.length c))::.a (.c (.int .i32 (v:Int)))::anys (Tryd.f70.ntmps-2)) rfl (fun w r0 hr _=>?_)
 obtain ⟨x0,rfl⟩:=len1' hr
 have hm:v≤1114111:=by unfold scal at hv; omega
 by_cases h1:v≤127
 ·have e1:decide (BitVec.ofInt 32 (v:Int)≤127#32)=true:=(le32 hm (by decide)).trans (decide_eq_true h1)
  have hE:=enc_one' (v:=v) (by omega)
  have hEl:(enc v).length=1:=by rw [hE]; rfl
  have hbl:(b++enc v).length=b.length+1:=by rw [List.length_append,hEl]
  (repeat show _∧_;first|refine yr ?_|refine yt ?_|refine yf ?_|refine ya e1 ?_|refine yb e1 ?_|refine yo ?_)
  refine And.intro ⟨by omega,by simp only [scale]; omega,by show (b.length+1)*1≤140737488355328; omega⟩ ?_
  intro c' hc'
  (repeat show _∧_;first|refine yr ?_|refine yt ?_|refine yf ?_|refine yo ?_)
  refine ⟨.a (.c (.sl 1 0 0 (b++enc v).length c')),_,⟨[0,2],⟨rfl,rfl,rfl⟩,?_⟩,c',by rw [List.length_append]; omega,rfl,rfl⟩
  (repeat first|exact trivial|refine ent1 ?_)
  refine ⟨fun j' hj'=>eqC_bytes (fun i hi=>?_) j',trivial⟩
  have hi':i<b.length+1:=by rw [List.length_append] at hi; omega
  rw [hE]
  refine app_row (l:=b) (n:=b.length) (k:=1) rfl ?_ (fun i hi=>bytesF_lt hi) (fun i hi=>?_) i hi'
  ·rfl
  ·exact rowl i (by exact hi) rfl
 have e1:decide (BitVec.ofInt 32 (v:Int)≤127#32)=false:=(le32 hm (by decide)).trans (decide_eq_false h1)
 (repeat show _∧_;first|refine yr ?_|refine yt ?_|refine yf ?_|refine ya e1 ?_|refine yb e1 ?_|refine yo ?_)
 refine call_same (fn_arunen b c hb hc hv (by omega)) [0] rfl (by (repeat first|exact trivial|refine ent1 ?_)) (by (repeat first|exact trivial|refine ent1 ?_)) (fun _ _=>trivial) ?_
 rintro x hs' ⟨c',g1,rfl,rfl⟩
 refine ⟨.a (.c (.sl 1 0 0 (b++enc v).length c')),_,⟨[0,1],⟨rfl,rfl,rfl⟩,?_⟩,c',g1,rfl,rfl⟩
 (repeat first|exact trivial|refine ent1 ?_)
end Sx
end
end Go.Proofs.YtnehmcpkeamghaaDoor
section
namespace Go.Proofs.YtnehmcpkeamghaaDoor
set_option linter.unusedVariables false
def p10n:String:=(Rows.jsonAnyRow.named)[2]!
end Go.Proofs.YtnehmcpkeamghaaDoor
namespace Go.Proofs
open Go.Shelf
open Go.RowKit in
def Tryd.lays283_ren:Go.Shelf.Ren:=⟨fun|283=>83|n=>n,fun|3=>3|9=>9|4=>4|n=>n,fun|n=>n⟩
theorem Tryd.lays283:Go.Proofs.Lays.n283 Tryd.prog Tryd.lays283_ren:={
 mixed:=by kernel_rfl
 f283:=Tryd.func83.trans (congrArg some (by kernel_rfl))
 t3:=Tryd.underlying3
 a3:=Tryd.isAgg3
 z3:=Tryd.sizeOf3
 v3:=Tryd.zeroValue3
 t4:=Tryd.underlying4
 a4:=Tryd.isAgg4
 z4:=Tryd.sizeOf4
 v4:=Tryd.zeroValue4
 t9:=Tryd.underlying9
 a9:=Tryd.isAgg9
 z9:=Tryd.sizeOf9
 v9:=Tryd.zeroValue9 }
open Go.Lib in
theorem Tryd.internal_strconv_small (i:Nat) (h:i<100) (w:World) :
  Calls Tryd.prog 83 #[.int .i64 i] w fun e w'=>e=.returned (.string ⟨(Lib.decDigits i).toArray⟩)∧w'=w:=Any.internal_strconv_small Tryd.lays283 i h w
def Tryd.laysM284_ren:Go.Shelf.Ren:=⟨fun|284=>84|129=>89|317=>88|318=>90|n=>n,fun|53=>23|3=>3|212=>156|0=>0|4=>4|46=>108|5=>5|9=>9|n=>n,fun|17=>3|n=>n⟩
theorem Tryd.laysM284:Go.Proofs.LaysM.n284 Tryd.prog Tryd.laysM284_ren:={
 mixed:=by kernel_rfl
 f129:=Tryd.func89.trans (congrArg some (by kernel_rfl))
 f284:=Tryd.func84.trans (congrArg some (by kernel_rfl))
 f317:=Tryd.func88.trans (congrArg some (by kernel_rfl))
 f318:=Tryd.func90.trans (congrArg some (by kernel_rfl))
 t0:=Tryd.underlying0
 a0:=Tryd.isAgg0
 z0:=Tryd.sizeOf0
 v0:=Tryd.zeroValue0
 t3:=Tryd.underlying3
 a3:=Tryd.isAgg3
 z3:=Tryd.sizeOf3
 v3:=Tryd.zeroValue3
 t4:=Tryd.underlying4
 a4:=Tryd.isAgg4
 z4:=Tryd.sizeOf4
 v4:=Tryd.zeroValue4
 t5:=Tryd.underlying5
 a5:=Tryd.isAgg5
 z5:=Tryd.sizeOf5
 v5:=Tryd.zeroValue5
 t9:=Tryd.underlying9
 a9:=Tryd.isAgg9
 z9:=Tryd.sizeOf9
 v9:=Tryd.zeroValue9
 t46:=Tryd.underlying108
 a46:=Tryd.isAgg108
 z46:=Tryd.sizeOf108
 v46:=Tryd.zeroValue108
 t53:=Tryd.underlying23
 a53:=Tryd.isAgg23
 z53:=Tryd.sizeOf23
 v53:=Tryd.zeroValue23
 t212:=Tryd.underlying156
 a212:=Tryd.isAgg156
 z212:=Tryd.sizeOf156
 v212:=Tryd.zeroValue156
 g17:=by kernel_rfl
 i0:=by kernel_rfl
 i3:=by kernel_rfl
 i4:=by kernel_rfl
 i5:=by kernel_rfl
 i9:=by kernel_rfl
 i46:=by kernel_rfl
 i53:=by kernel_rfl
 i212:=by kernel_rfl
 m17:=by kernel_rfl }
open Go.Lib in
theorem Tryd.internal_strconv_numDigits (u:Nat) (h1:1≤u) (h2:u<18446744073709551616) (w:World) (htab:Lib.TabIs Tryd.prog w YtnehmcpkeamghaaDoor.p10n .u64 Lib.pow10Tab) :
  Calls Tryd.prog 84 #[.int .u64 u] w fun e w'=>e=.returned (.int .i64 (Lib.nDigits u))∧w'=w:=Any.internal_strconv_numDigits Tryd.laysM284 u h1 h2 w htab
def Tryd.lays197_ren:Go.Shelf.Ren:=⟨fun|197=>71|260=>81|n=>n,fun|9=>9|21=>21|3=>3|4=>4|5=>5|105=>134|119=>140|0=>0|46=>108|139=>143|138=>142|n=>n,fun|3=>0|4=>1|n=>n⟩
theorem Tryd.lays197:Go.Proofs.Lays.n197 Tryd.prog Tryd.lays197_ren:={
 mixed:=by kernel_rfl
 f197:=Tryd.func71.trans (congrArg some (by kernel_rfl))
 f260:=Tryd.func81.trans (congrArg some (by kernel_rfl))
 t0:=Tryd.underlying0
 a0:=Tryd.isAgg0
 z0:=Tryd.sizeOf0
 v0:=Tryd.zeroValue0
 t3:=Tryd.underlying3
 a3:=Tryd.isAgg3
 z3:=Tryd.sizeOf3
 v3:=Tryd.zeroValue3
 t4:=Tryd.underlying4
 a4:=Tryd.isAgg4
 z4:=Tryd.sizeOf4
 v4:=Tryd.zeroValue4
 t5:=Tryd.underlying5
 a5:=Tryd.isAgg5
 z5:=Tryd.sizeOf5
 v5:=Tryd.zeroValue5
 t9:=Tryd.underlying9
 a9:=Tryd.isAgg9
 z9:=Tryd.sizeOf9
 v9:=Tryd.zeroValue9
 t21:=Tryd.underlying21
 a21:=Tryd.isAgg21
 z21:=Tryd.sizeOf21
 v21:=Tryd.zeroValue21
 t46:=Tryd.underlying108
 a46:=Tryd.isAgg108
 z46:=Tryd.sizeOf108
 v46:=Tryd.zeroValue108
 t105:=Tryd.underlying134
 a105:=Tryd.isAgg134
 z105:=Tryd.sizeOf134
 v105:=Tryd.zeroValue134
 t119:=Tryd.underlying140
 a119:=Tryd.isAgg140
 z119:=Tryd.sizeOf140
 t138:=Tryd.underlying142
 a138:=Tryd.isAgg142
 z138:=Tryd.sizeOf142
 v138:=Tryd.zeroValue142
 t139:=Tryd.underlying143
 a139:=Tryd.isAgg143
 z139:=Tryd.sizeOf143
 v139:=Tryd.zeroValue143
 g3:=by kernel_rfl
 g4:=by kernel_rfl }
open Go.RowKit Go.Lib in
def Tryd.lays196_ren:Go.Shelf.Ren:=⟨fun|196=>65|259=>77|n=>n,fun|9=>9|4=>4|3=>3|5=>5|12=>12|119=>140|0=>0|46=>108|139=>143|138=>142|53=>23|n=>n,fun|3=>0|4=>1|n=>n⟩
theorem Tryd.lays196:Go.Proofs.Lays.n196 Tryd.prog Tryd.lays196_ren:={
 mixed:=by kernel_rfl
 f196:=Tryd.func65.trans (congrArg some (by kernel_rfl))
 f259:=Tryd.func77.trans (congrArg some (by kernel_rfl))
 t0:=Tryd.underlying0
 a0:=Tryd.isAgg0
 z0:=Tryd.sizeOf0
 v0:=Tryd.zeroValue0
 t3:=Tryd.underlying3
 a3:=Tryd.isAgg3
 z3:=Tryd.sizeOf3
 v3:=Tryd.zeroValue3
 t4:=Tryd.underlying4
 a4:=Tryd.isAgg4
 z4:=Tryd.sizeOf4
 v4:=Tryd.zeroValue4
 t5:=Tryd.underlying5
 a5:=Tryd.isAgg5
 z5:=Tryd.sizeOf5
 v5:=Tryd.zeroValue5
 t9:=Tryd.underlying9
 a9:=Tryd.isAgg9
 z9:=Tryd.sizeOf9
 v9:=Tryd.zeroValue9
 t12:=Tryd.underlying12
 a12:=Tryd.isAgg12
 z12:=Tryd.sizeOf12
 v12:=Tryd.zeroValue12
 t46:=Tryd.underlying108
 a46:=Tryd.isAgg108
 z46:=Tryd.sizeOf108
 v46:=Tryd.zeroValue108
 t53:=Tryd.underlying23
 a53:=Tryd.isAgg23
 z53:=Tryd.sizeOf23
 v53:=Tryd.zeroValue23
 t119:=Tryd.underlying140
 a119:=Tryd.isAgg140
 z119:=Tryd.sizeOf140
 t138:=Tryd.underlying142
 a138:=Tryd.isAgg142
 z138:=Tryd.sizeOf142
 v138:=Tryd.zeroValue142
 t139:=Tryd.underlying143
 a139:=Tryd.isAgg143
 z139:=Tryd.sizeOf143
 v139:=Tryd.zeroValue143
 g3:=by kernel_rfl
 g4:=by kernel_rfl }
open Go.RowKit Go.Lib in
theorem Tryd.utf8_ValidString (s:ByteArray) (w:World) (hs:s.size≤9223372036854775807) (hT:Lib.Utf8Tabs 0 1 w) :
  Calls Tryd.prog 65 #[.string s] w fun e w'=>e=.returned (.bool (Lib.validD s.data.toList))∧Below w.heap.size w w':=Any.utf8_ValidString Tryd.lays196 s w hs hT
end Go.Proofs
end
namespace Go.Proofs.YtnehmcpkeamghaaDoor
set_option linter.unusedVariables false
end Go.Proofs.YtnehmcpkeamghaaDoor
