/-
  Texts of this claim, part 9: Sxv, Sxs, EoZ, EpA, QjW, JtL. No condition of its own.
-/
import Derived.ChangeArms
import Derived.Lib.LaidU8
import Derived.MakeChecks
import Derived.Test.YtnehmcpkeamghaaDoorG8
namespace Go.Proofs.YtnehmcpkeamghaaDoor
set_option linter.unusedVariables false
section
namespace Sx
open Go.RowKit Go.ChangeShapes Go.WideShapes Sha

theorem okWide_spot {P:Program} {w:World} {r:Reach} {b0:Nat} {t e:TypeId} {a:Option Addr} {n c:Nat} (ht:P.underlying t=some (.slice e)) (h:Value.okWide P w r b0 t (.slice a n c)):∀ x,a=some x→x.spot=none:=by
 rintro x rfl
 simp only [Value.okWide,ht,Cell.okWide,Cell.ok] at h
 exact h.2.2.2.1
structure InB (w:World) (a:Option Addr) (n c:Nat) (z:Bool) (l:Bs) (B f:Nat):Prop where
 len:l.length=n
 le:n≤c
 cap:c≤maxLen
 nil:z=true→l=[]
 val:∀ (r:Rho) (i:Nat),r[i]?=some (B,f)→SC.Is r (.sn z i 0 0 n c) (.slice a n c)
 at_:∀ r:Rho,At false r w B f (flat (bts z n 0 n (L l)))
theorem open_b8 {w:World} {a:Option Addr} {len cap:Nat} {zs:List Int} (h:IsRow .u8 w a len cap zs) (hs:∀ x,a=some x→x.spot=none):∃ z l B f,InB w a len cap z l B f:=by
 rcases h with ⟨rfl,rfl,rfl,rfl⟩|⟨x,rfl,hl,hm,hz,hc,hw⟩
 ·exact ⟨true,[],0,0,rfl,Nat.le_refl _,by unfold maxLen; omega,fun _=>rfl,fun r i _=>.inl ⟨rfl,rfl,rfl,rfl⟩,fun r j y e=>by simp [bts,flat] at e⟩
 ·obtain ⟨B,f,spot⟩:=x
  obtain rfl:spot=none:=hs _ rfl
  refine ⟨false,(zs.take len).map (BitVec.ofInt 8),B,f,by simp; omega,hl,hm,fun h=>Bool.noConfusion h,fun r i hr=>.inr (.inl ⟨rfl,B,f,hr,rfl⟩),fun r j y e=>?_⟩
  have hj:j<len:=by
   rcases Nat.lt_or_ge j len with h|h
   ·exact h
   ·rw [List.getElem?_eq_none (by simpa [bts,flat] using h)] at e; cases e
  have e2:y=.w8 (L ((zs.take len).map (BitVec.ofInt 8)) j):=by
   simp only [bts,flat,List.append_nil,List.getElem?_map,Option.map_eq_some_iff] at e
   obtain ⟨i,hi,rfl⟩:=e
   rw [List.getElem?_range (by omega)] at hi
   injection hi with hi
   subst hi
   have:=winF_at 0 len (L ((zs.take len).map (BitVec.ofInt 8))) hj
   rwa [Nat.zero_add] at this
  subst e2
  have hc1:=hc j (by omega)
  have ha:(⟨B,f,none⟩:Addr).add j=⟨B,f+j,none⟩:=by unfold Addr.add; simp
  rw [ha] at hc1
  refine ⟨_,hc1,?_,fun h=>Bool.noConfusion h⟩
  show Value.int .u8 _=Value.int .u8 _
  congr 1
  have hjz:j<zs.length:=by omega
  have h3:zs.getD j 0=zs[j]:=by rw [List.getD_eq_getElem?_getD,List.getElem?_eq_getElem hjz]; rfl
  have h4:L ((zs.take len).map (BitVec.ofInt 8)) j=BitVec.ofInt 8 zs[j]:=by
   rw [L_lt (by simp; omega)]
   simp
  rw [h3,h4]
  exact wf_w8 (hw _ (List.getElem_mem _))
def AllAt (R:Rho) (w:World):List (List Seg)→Rho→Prop
 | [],[]=>True
 | ch::h,(B,f)::r=>At false R w B f (flat ch)∧AllAt R w h r
 | _,_=>False
theorem AllAt.len {R:Rho} {w:World}:∀ {h:List (List Seg)} {r:Rho},AllAt R w h r→r.length=h.length
 | [],[],_=>rfl
 | _::h,_::r,k=>by rw [List.length_cons,List.length_cons,AllAt.len k.2]
 | [],_::_,k=>k.elim
 | _::_,[],k=>k.elim
theorem AllAt.get {R:Rho} {w:World}:∀ {h:List (List Seg)} {r:Rho},AllAt R w h r→∀ (i:Nat) (ch:List Seg) (B f:Nat),h[i]?=some ch→r[i]?=some (B,f)→At false R w B f (flat ch)
 | [],[],_,i,_,_,_,e,_=>by simp at e
 | c::h,(B',f')::r,k,0,_,_,_,e1,e2=>by
  simp at e1 e2
  obtain ⟨rfl,rfl⟩:=e2
  subst e1
  exact k.1
 | c::h,(B',f')::r,k,i+1,_,_,_,e1,e2=>k.2.get i _ _ _ (by simpa using e1) (by simpa using e2)
theorem heapOk_ro {P:Program} {T:List (Nat × TD)} {w:World} {r0:Rho} {h0:List (List Seg)} (hat:AllAt r0 w h0 r0) (hp:∀ (i:Nat) (W:World) (ms:List Nat),h0[i]?=some [.past W ms]→W=w):HeapOk (cx0 P T w r0 h0.length h0) h0 r0 w:=by
 have hlen:=hat.len
 have hget:∀ i,h0[i]?=some (getH h0 i)∨h0[i]?=none:=fun i=>by
  rcases Nat.lt_or_ge i h0.length with h|h
  ·exact .inl (by rw [List.getElem?_eq_getElem h]; have:=getH_eq h0 i; rw [List.getElem?_eq_getElem h] at this; simpa using this.symm)
  ·exact .inr (List.getElem?_eq_none h)
 have out:∀ (i:Nat) (x:Nat × Nat),h0.length≤i→r0[i]?=some x→False:=fun i x hi e=>by
  rw [List.getElem?_eq_none (by omega)] at e; cases e
 refine ⟨Ext.refl _ _,RLe.refl _,Nat.le_of_eq hlen.symm,hlen,fun i ch B f hi hr=>?_,fun i B f ho hr=>(out i _ ho hr).elim,fun i B f ho hr=>(out i _ ho hr).elim,fun i B f ho hl hr=>?_,fun i ch ho hl hi=>?_,fun i j B f f' ch ch' hij o1 o2 h1 h2 r1 r2=>(out i _ o1 r1).elim,fun i m B f ho _ hr=>(out i _ ho hr).elim,fun i W ms hi=>?_⟩
 ·have hil:i<h0.length:=(List.getElem?_eq_some_iff.1 hi).1
  have:Nat.ble h0.length i=false:=by
   cases e:Nat.ble h0.length i
   ·rfl
   ·have:=ble_le e; omega
  show At (Nat.ble h0.length i) _ _ _ _ _
  rw [this]
  exact hat.get i ch B f hi hr
 ·refine ⟨?_,?_⟩
  ·show B ∉ (r0.drop h0.length).map (·.1)
   rw [List.drop_eq_nil_of_le (by omega)]
   simp
  ·rcases hget i with e|e
   ·exact (hat.get i _ B f e hr).lt hl
   ·rw [List.getElem?_eq_none_iff] at e
    exact (out i _ e hr).elim
 ·have hl:¬ flat (getH h0 i)≠[]:=hl
  rcases hget i with e|e
  ·rw [hi] at e
   injection e with e
   rw [e]
   exact Classical.not_not.1 hl
  ·rw [hi] at e; cases e
 ·obtain rfl:=hp i W ms hi
  exact ⟨Ext.refl _ _,fun B _ h2 h3=>⟨i,_,ms,hi,h2,h3⟩,fun j B f ho hr=>(out j _ ho hr).elim⟩
end Sx
end
section
namespace Sx
open Go.RowKit Go.ChangeShapes Go.WideShapes Sha Vi

theorem isL_nil (r:Rho):IsL r [] []:=⟨rfl,fun j x e=>by simp at e⟩
theorem isL_cons {r:Rho} {x:SC} {v:Value} {l:List SC} {vs:List Value} (h:x.Is r v) (hs:IsL r l vs):IsL r (x::l) (v::vs) :=
 ⟨by simpa using hs.1,fun j y e=>by
  cases j with
  | zero=>simp at e; subst e; exact ⟨v,rfl,h⟩
  | succ j=>exact hs.2 j y e⟩
end Sx
end
section
namespace Sx
open Go.RowKit Go.ChangeShapes Go.WideShapes Sha Vi Ev

theorem FnR.lawP {P:Program} {T:List (Nat × TD)} {f:FuncId} {args:List SA} {w:World} {vs:List Value} (h:FnR P T f 1 [[.past w []]] args (fun _=>True) (fun x _=>x=.a (.c (.bool true))))
  (ha:IsAs [(0,0)] args vs):Calls P f vs.toArray w fun e w'=>e=.returned (.bool true)∧Below w.heap.size w w':=by
 have hat:AllAt [(0,0)] w [[.past w []]] [(0,0)]:=⟨fun j x e=>by simp [flat] at e,trivial⟩
 refine (h w [(0,0)] vs (heapOk_ro hat (fun i W ms e=>?_)) ha trivial).mono ?_
 ·cases i with
  | zero=>simp at e; exact e.1.symm
  | succ i=>simp at e
 ·rintro e w' ⟨v,x,hs,r',rfl,hx,hok,rfl⟩
  obtain rfl:v=.bool true:=hx
  refine ⟨rfl,?_⟩
  have e:Ext (([((0:Nat),(0:Nat))].drop 1).map (·.1)) w w':=hok.ext
  exact e.below0
theorem cell_block {w:World} {a:Addr} {v:Value} (h:w.cell? a=some v):a.block<w.heap.size:=by
 unfold World.cell? at h
 rcases Nat.lt_or_ge a.block w.heap.size with hb|hb
 ·exact hb
 ·rw [Array.getElem?_eq_none hb] at h; cases h
theorem row_bs {w:World} {a:Option Addr} {n c:Nat} {zs:List Int} (h:IsRow .u8 w a n c zs) (hs:∀ x,a=some x→x.spot=none):∃ l:Bs,BsAt w [] a n c l:=by
 obtain ⟨z,l,B,f,hI⟩:=open_b8 h hs
 rcases h with ⟨rfl,rfl,rfl,rfl⟩|⟨x,rfl,hl,hm,hz,hc,hw⟩
 ·exact ⟨[],SlAt.nul⟩
 ·obtain ⟨B,f,spot⟩:=x
  obtain rfl:spot=none:=hs _ rfl
  have hcap:=hI.cap
  refine ⟨(zs.take n).map (BitVec.ofInt 8),by simp; omega,hl,by unfold maxLen at hcap; omega,(fun e=>by cases e),fun x e h0=>?_⟩
  injection e with e
  subst e
  refine ⟨rfl,?_,List.not_mem_nil,fun j y e=>?_⟩
  ·have:=cell_block (hc 0 (by omega))
   simpa [Addr.add] using this
  ·have hj:j<n:=by
    have:=(List.getElem?_eq_some_iff.1 e).1
    simp at this; omega
   have hjz:j<zs.length:=by omega
   have ha:(⟨B,f,none⟩:Addr).add j=⟨B,f+j,none⟩:=by unfold Addr.add; simp
   have hc1:=hc j (by omega)
   rw [ha] at hc1
   refine ⟨_,hc1,?_⟩
   rw [List.getElem?_map,List.getElem?_map,List.getElem?_take,if_pos hj,List.getElem?_eq_getElem hjz] at e
   simp only [Option.map_some,Option.some.injEq] at e
   subst e
   show Value.int .u8 _=Value.int .u8 _
   congr 1
   have h3:zs.getD j 0=zs[j]:=by rw [List.getD_eq_getElem?_getD,List.getElem?_eq_getElem hjz]; rfl
   rw [h3]
   exact wf_w8 (hw _ (List.getElem_mem _))
theorem row_ns {w:World} {a:Option Addr} {n c:Nat} {zs:List Int} (h:IsRow .u64 w a n c zs) (hs:∀ x,a=some x→x.spot=none):∃ l:List (BitVec 64),NsAt w [] a n c l:=by
 rcases h with ⟨rfl,rfl,rfl,rfl⟩|⟨x,rfl,hl,hm,hz,hc,hw⟩
 ·exact ⟨[],SlAt.nul⟩
 ·obtain ⟨B,f,spot⟩:=x
  obtain rfl:spot=none:=hs _ rfl
  have hcap:c≤maxLen:=hm
  refine ⟨(zs.take n).map (BitVec.ofInt 64),by simp; omega,hl,by unfold maxLen at hcap; omega,(fun e=>by cases e),fun x e h0=>?_⟩
  injection e with e
  subst e
  refine ⟨rfl,?_,List.not_mem_nil,fun j y e=>?_⟩
  ·have:=cell_block (hc 0 (by omega))
   simpa [Addr.add] using this
  ·have hj:j<n:=by
    have:=(List.getElem?_eq_some_iff.1 e).1
    simp at this; omega
   have hjz:j<zs.length:=by omega
   have ha:(⟨B,f,none⟩:Addr).add j=⟨B,f+j,none⟩:=by unfold Addr.add; simp
   have hc1:=hc j (by omega)
   rw [ha] at hc1
   refine ⟨_,hc1,?_⟩
   rw [List.getElem?_map,List.getElem?_map,List.getElem?_take,if_pos hj,List.getElem?_eq_getElem hjz] at e
   simp only [Option.map_some,Option.some.injEq] at e
   subst e
   show Value.int .u64 _=Value.int .u64 _
   congr 1
   have h3:zs.getD j 0=zs[j]:=by rw [List.getD_eq_getElem?_getD,List.getElem?_eq_getElem hjz]; rfl
   rw [h3]
   exact wf_w64 (hw _ (List.getElem_mem _))
section
variable {H : Type} {enc : TypeId × Value → H} {P : Program} {w : World} {base : Nat} {held : Bool}
theorem raw_b8 {t e:TypeId} {fuel:Nat} {cs:List Value} {y:DataW H × List MemPlace} (ht:P.underlying t=some (.slice e)) (he:P.underlying e=some (.int .u8)) (hc:P.cellsOf e=1)
  (h:DataW.trod enc P w base (fun _=>true) held fuel t cs=some y):∃ (a:Option Addr) (n c:Nat) (l:Bs),cs=[.slice a n c]∧BsAt w [] a n c l:=by
 rcases open_ints ht he hc h with ⟨rfl,_⟩|⟨x,n,c,zs,rfl,_,hl,hm,hz,_,hcell,hwz⟩
 ·exact ⟨none,0,0,[],rfl,SlAt.nul⟩
 ·have hz:zs.length=c:=by simpa using hz
  rcases Nat.eq_zero_or_pos c with hc0|hc0
  ·subst hc0
   obtain rfl:n=0:=by omega
   exact ⟨_,0,0,[],rfl,by simp,Nat.le_refl _,by decide,fun _=>rfl,fun x e h0=>absurd rfl h0⟩
  ·obtain ⟨l,hl⟩:=row_bs (w:=w) (n:=n) (c:=c) (zs:=zs) (.inr ⟨x,rfl,hl,hm,hz,fun i hi=>hcell i hi,hwz⟩) (fun y e=>by
    cases e
    have:=World.cell?_spot (hcell 0 (by omega))
    simpa [Addr.add] using this)
   exact ⟨_,n,c,l,rfl,hl⟩
theorem raw_n64 {t e:TypeId} {fuel:Nat} {cs:List Value} {y:DataW H × List MemPlace} (ht:P.underlying t=some (.slice e)) (he:P.underlying e=some (.int .u64)) (hc:P.cellsOf e=1)
  (h:DataW.trod enc P w base (fun _=>true) held fuel t cs=some y):∃ (a:Option Addr) (n c:Nat) (l:List (BitVec 64)),cs=[.slice a n c]∧NsAt w [] a n c l:=by
 rcases open_ints ht he hc h with ⟨rfl,_⟩|⟨x,n,c,zs,rfl,_,hl,hm,hz,_,hcell,hwz⟩
 ·exact ⟨none,0,0,[],rfl,SlAt.nul⟩
 ·have hz:zs.length=c:=by simpa using hz
  rcases Nat.eq_zero_or_pos c with hc0|hc0
  ·subst hc0
   obtain rfl:n=0:=by omega
   exact ⟨_,0,0,[],rfl,by simp,Nat.le_refl _,by decide,fun _=>rfl,fun x e h0=>absurd rfl h0⟩
  ·obtain ⟨l,hl⟩:=row_ns (w:=w) (n:=n) (c:=c) (zs:=zs) (.inr ⟨x,rfl,hl,hm,hz,fun i hi=>hcell i hi,hwz⟩) (fun y e=>by
    cases e
    have:=World.cell?_spot (hcell 0 (by omega))
    simpa [Addr.add] using this)
   exact ⟨_,n,c,l,rfl,hl⟩
end
section
theorem isL_head {r:Rho} {x:SC} {v:Value} (h:IsL r [x] [v]):x.Is r v:=by
 obtain ⟨u,e,hu⟩:=h.2 0 x rfl
 injection e with e
 rw [e]; exact hu
variable {H : Type} {enc : TypeId × Value → H} {w : World} {base : Nat} {held : Bool}
theorem one_k8 {P:Program} {t:TypeId} {fuel:Nat} {cs:List Value} {y:DataW H × List MemPlace} (ht:P.underlying t=some (.int .u8)) (h:DataW.trod enc P w base (fun _=>true) held fuel t cs=some y):∃ b:BitVec 8,∀ r:Rho,IsL r [.w8 b] cs:=by
 obtain ⟨x,rfl,_,wx⟩:=DataW.trod_int ht h
 exact ⟨BitVec.ofInt 8 x,fun r=>isL_cons (congrArg _ (wf_w8 wx)) (isL_nil r)⟩
theorem one_t64 {P:Program} {t:TypeId} {fuel:Nat} {cs:List Value} {y:DataW H × List MemPlace} (ht:P.underlying t=some (.int .u64)) (h:DataW.trod enc P w base (fun _=>true) held fuel t cs=some y):∃ b:BitVec 64,∀ r:Rho,IsL r [.w64 b] cs:=by
 obtain ⟨x,rfl,_,wx⟩:=DataW.trod_int ht h
 exact ⟨BitVec.ofInt 64 x,fun r=>isL_cons (congrArg _ (wf_w64 wx)) (isL_nil r)⟩
set_option maxRecDepth 100000 in
theorem open_ev {fuel:Nat} {cs:List Value} {y:DataW H × List MemPlace} (hl:cs.length=4) (hf:DataW.trod enc Tryd.prog w base (fun _=>true) held fuel 27 cs=some y) :
  ∃ (e:Ev) (x:EvC),EvAt w [] x e∧∀ r:Rho,IsL r (flat (evS e x)) cs:=by
 obtain ⟨xs,n,_,_,_,hxl,hg⟩:=DataW.trod_struct Tryd.underlying27 hf
 match cs,hl with
 | [c0,c1,c2,c3],_ =>
  match xs,hxl with
  | [y0,y1,y2,y3],_ =>
   obtain ⟨k,h0⟩:=one_k8 (P:=Tryd.prog) (cs:=[c0]) (y:=y0) Tryd.underlying22 (hg 0 _ rfl)
   obtain ⟨t,h1⟩:=one_t64 (P:=Tryd.prog) (cs:=[c1]) (y:=y1) Tryd.underlying23 (hg 1 _ rfl)
   obtain ⟨aN,nN,cN,N,e2,hN⟩:=raw_n64 (P:=Tryd.prog) (cs:=[c2]) (y:=y2) Tryd.underlying24 Tryd.underlying23 (by kernel_rfl) (hg 2 _ rfl)
   obtain ⟨aD,nD,cD,D,e3,hD⟩:=raw_b8 (P:=Tryd.prog) (cs:=[c3]) (y:=y3) Tryd.underlying25 Tryd.underlying5 (by kernel_rfl) (hg 3 _ rfl)
   injection e2 with e2; injection e3 with e3
   subst e2; subst e3
   exact ⟨⟨k,t,N,D⟩,⟨aN,nN,cN,aD,nD,cD⟩,⟨hN,hD⟩,fun r=>isL_cons (isL_head (h0 r)) (isL_cons (isL_head (h1 r)) (isL_cons rfl (isL_cons rfl (isL_nil r))))⟩
set_option maxRecDepth 100000 in
theorem open_evs {rc:Reach} {b0:Nat} {v:Value} {d:DataW H} {p:List MemPlace} (hval:Value.okWide Tryd.prog w rc b0 30 v) (h:DataW.Trod enc Tryd.prog w base (fun _=>true) held 30 v d p) :
  ∃ (a:Option Addr) (n c:Nat) (es:List Ev),v=.slice a n c∧EvsAt w [] a n c es:=by
 obtain ⟨a0,n0,c0,rfl⟩:=okWide_slice Tryd.underlying30 hval
 have hspot:=okWide_spot Tryd.underlying30 hval
 obtain ⟨fuel,hf⟩:=h
 rcases DataW.trod_slice Tryd.underlying30 hf with ⟨hcs,_⟩|⟨a,len,cap,elems,rest,m,_,hcs,_,hb,hl,hm,hlen,hel,_,_⟩
 ·simp [Value.cells] at hcs
  obtain ⟨rfl,rfl,rfl⟩:=hcs
  exact ⟨none,0,0,[],rfl,EvsAt.nul⟩
 simp [Value.cells] at hcs
 obtain ⟨rfl,rfl,rfl⟩:=hcs
 have hsz:Tryd.prog.cellsOf 27=4:=by kernel_rfl
 rw [hsz] at hel
 obtain ⟨B,f,sp⟩:=a
 obtain rfl:sp=none:=hspot _ rfl
 have each:∀ k,∃ y:Ev,k<n0→∃ x,ImAt w [] ((⟨B,f,none⟩:Addr).add (k*4)) (flat (evS y x))∧EvAt w [] x y:=by
  intro k
  by_cases hk:k<n0
  ·have h1:=hel k hk
   rw [List.getElem?_eq_getElem (by omega),Option.bind_eq_some_iff] at h1
   obtain ⟨cs,hcs,ht⟩:=h1
   obtain ⟨hb',hlen',hget⟩:=World.cells?_some hcs
   obtain ⟨e,x,hx,hi⟩:=open_ev hlen' ht
   refine ⟨e,fun _=>⟨x,⟨?_,?_,List.not_mem_nil,fun j y he=>?_⟩,hx⟩⟩
   ·simp only [Addr.add]; split <;> rfl
   ·have h0:=hget 0 (by omega)
    rw [List.getElem?_eq_getElem (by omega)] at h0
    exact cell_block h0
   ·obtain ⟨v,e1,e2⟩:=(hi []).2 j y he
    have hj:j<4:=(List.getElem?_eq_some_iff.1 he).1
    refine ⟨v,?_,e2⟩
    have h0:=hget j hj
    rw [e1] at h0
    rw [← h0]
    congr 1
    simp only [Addr.add]
    split <;> split <;> simp <;> omega
  ·exact ⟨⟨0#8,0#64,[],[]⟩,fun h=>absurd h hk⟩
 obtain ⟨g,hg⟩:=Classical.axiomOfChoice each
 refine ⟨some ⟨B,f,none⟩,n0,c0,(List.range n0).map g,rfl,by simp,hl,by (have:c0≤maxLen:=hm; unfold maxLen at this; omega),(fun e=>by cases e),fun A hA k e he=>?_⟩
 cases hA
 have hk:k<n0:=by have:=(List.getElem?_eq_some_iff.1 he).1; simpa using this
 rw [List.getElem?_map,List.getElem?_range hk] at he
 injection he with he
 subst he
 exact hg k hk
end
end Sx
end
section
namespace Sx
open Go.RowKit Go.ChangeShapes Go.WideShapes Sha Vi Ev

theorem FnR.frzW {P:Program} {T:List (Nat × TD)} {f:FuncId} {n:Nat} {h0:List (List Seg)} {args:List SA} {raw:World→Prop} {Res Res':SV→List (List Seg)→Prop} (h:FnR P T f n h0 args raw Res)
  (k:∀ (w:World) (r0:Rho) x hs,r0.length=h0.length→Res x hs→FinW (cx0 P T w r0 n h0) x hs Res'):FnR P T f n h0 args raw Res' :=
 fun w r0 vs ok ha hr=>(h w r0 vs ok ha hr).mono fun _ _ ⟨v,x,hs,r',e,h1,h2,h3⟩=>by
  obtain ⟨x',hs',r'',a,b,c⟩:=k w r0 x hs ok.len h3 r' _ v h2 h1
  exact ⟨v,x',hs',r'',e,a,b,c⟩
set_option maxRecDepth 20000 in
theorem fn_erowF {W:World} {ms:List Nat} {a:Option Addr} {n c:Nat} {es:List Ev} (h:EvsAt W ms a n c es) {aK:Option Addr} {nK cK:Nat} {ks:Bs} (hK:BsAt W ms aK nK cK ks) (hl:∀ e∈es,e.N.length≤30∧e.D.length≤100) (hn60:n≤60) :
  FnR Tryd.prog tds 21 1 [[.past W ms]] [.c (.slc a n c),.c (.slc aK nK cK)] (fun _=>True)
  (fun y hs=>∃ a' c' W' ms',Later W ms W' ms'∧EvsAt W' ms' a' n c' (rowE ks es 0 0#64)∧y=.a (.c (.slc a' n c'))∧hs=[[.past W' ms']]):=by
 rcases Nat.eq_zero_or_pos n with hn|hn
 ·obtain rfl:es=[]:=List.length_eq_zero_iff.1 (by rw [h.len,hn])
  subst hn
  refine (fn_erow0 (W:=W) (ms:=ms) (a:=a) (c:=c) rfl (aK:=aK) (nK:=nK) (cK:=cK)).mono (fun y hs ⟨h1,h2⟩=>⟨none,0,W,ms,Later.refl _ _,EvsAt.nul,h1,h2⟩)
 ·refine (fn_erow h hK hl hn60 hn).frzW (fun w r0 y hs hr0 ⟨W1,ms1,cs,c',hL,hrow,hc,h1,h2⟩=>?_)
  obtain ⟨x0,rfl⟩:=List.length_eq_one_iff.1 hr0
  subst h1; subst h2
  refine finW_frz [0] rfl (Nat.zero_lt_one) cx0_m rfl (fun W9 ms9 α hL9 hI=>?_)
  have hrl:(rowE ks es 0 0#64).length=n:=by rw [rowE_len,h.len]
  refine ⟨.a (.c (.slc (some ((α 1).add (0+0))) n c')),[],⟨⟨rfl,rfl,rfl⟩,?_⟩,some ((α 1).add (0+0)),c',W9,ms9,hL.trans hL9,hrow.frz (F:=fun j=>!memB j [0]) hL9 (hI 1 rfl) hrl hc (by omega),rfl,rfl⟩
  (repeat first|exact trivial|refine ent1 ?_)
end Sx
end
section
namespace Sx
open Go.RowKit Sha Vi Js Ev Qj

theorem good_all0:∀ {es:List Ev} {last:BitVec 64},GoodL last es→∀ e∈es,checkM e=0
 | [],_,_,_,he=>nomatch he
 | x::r,_,⟨h1,_,h3⟩,e,he=>by
  rcases List.mem_cons.1 he with rfl|he
  ·exact h1.check.1
  ·exact good_all0 h3 e he
theorem light2 {es:List Ev} (hL:lightE es=true):(∀ e∈es,e.N.length≤30∧e.D.length≤100)∧es.length≤60:=by
 unfold lightE at hL
 rw [Bool.and_eq_true] at hL
 exact ⟨of_decide_eq_true hL.1,of_decide_eq_true hL.2⟩
def LawA (W:World) (ms:List Nat) (y:SV) (hs:List (List Seg)):Prop:=∃ W' ms',Later W ms W' ms'∧y=.a (.c (.bool true))∧hs=[[.past W' ms']]
set_option maxRecDepth 20000 in
set_option maxHeartbeats 16000000 in
theorem fn_qback0 {W:World} {ms:List Nat} (hT:Tabs W ms) {a:Option Addr} {n c:Nat} {es:List Ev} (h:EvsAt W ms a n c es) {aK:Option Addr} {nK cK:Nat} (cut:Bool) (hL:lightE es=false) :
  FnR Tryd.prog tds 7 1 [[.past W ms]] [.c (.slc a n c),.c (.slc aK nK cK),.c (.bool cut)] (fun _=>True) (LawA W ms):=by
 refine fn_of_bodyW tds_ok follows_ Tryd.func7 rfl (t:=.a (.c (.slc a n c))::.a (.c (.slc aK nK cK))::.a (.c (.bool cut))::anys (Tryd.f7.ntmps-3)) rfl (fun w r0 hr _=>?_)
 obtain ⟨x0,rfl⟩:=List.length_eq_one_iff.1 hr
 (repeat show _∧_;first|refine yr ?_|refine yt ?_|refine yf ?_|refine yo ?_)
 refine call_past (fn_qawake hT) 0 [] rfl rfl (by (repeat first|exact trivial|refine ent1 ?_)) (by (repeat first|exact trivial|refine ent1 ?_)) (fun _ _=>trivial) (fun x hs hr=>?_) ?_
 ·obtain ⟨W',ms',hL,_,rfl⟩:=hr
  exact ⟨W',ms',rfl,hL⟩
 rintro y hs ⟨W1,ms1,hL1,rfl,rfl⟩
 (repeat show _∧_;first|refine yr ?_|refine yt ?_|refine yf ?_|refine yo ?_)
 refine call_same (fn_light (h.later hL1)) [0] rfl (by (repeat first|exact trivial|refine ent1 ?_)) (by (repeat first|exact trivial|refine ent1 ?_)) (fun _ _=>trivial) ?_
 rintro x hs' ⟨rfl,rfl⟩
 rw [hL]
 (repeat show _∧_;first|refine yr ?_|refine yt ?_|refine yf ?_|refine yo ?_)
 exact FinW.of ⟨.a (.c (.bool true)),_,⟨[0],⟨rfl,rfl,rfl⟩,by (repeat first|exact trivial|refine ent1 ?_)⟩,W1,ms1,hL1,rfl,rfl⟩
set_option maxRecDepth 20000 in
set_option maxHeartbeats 16000000 in
theorem fn_qback1 {W:World} {ms:List Nat} (hT:Tabs W ms) {a:Option Addr} {n c:Nat} {es:List Ev} (h:EvsAt W ms a n c es) {aK:Option Addr} {nK cK:Nat} {ks:Bs} (hK:BsAt W ms aK nK cK ks) (cut:Bool) (hL:lightE es=true) (hcn:cut=false∨n=0) :
  FnR Tryd.prog tds 7 1 [[.past W ms]] [.c (.slc a n c),.c (.slc aK nK cK),.c (.bool cut)] (fun _=>True) (LawA W ms):=by
 have hlen:=h.len
 have hl2:=light2 hL
 refine fn_of_bodyW tds_ok follows_ Tryd.func7 rfl (t:=.a (.c (.slc a n c))::.a (.c (.slc aK nK cK))::.a (.c (.bool cut))::anys (Tryd.f7.ntmps-3)) rfl (fun w r0 hr _=>?_)
 obtain ⟨x0,rfl⟩:=List.length_eq_one_iff.1 hr
 (repeat show _∧_;first|refine yr ?_|refine yt ?_|refine yf ?_|refine yo ?_)
 refine call_past (fn_qawake hT) 0 [] rfl rfl (by (repeat first|exact trivial|refine ent1 ?_)) (by (repeat first|exact trivial|refine ent1 ?_)) (fun _ _=>trivial) (fun x hs hr=>?_) ?_
 ·obtain ⟨W',ms',hL,_,rfl⟩:=hr
  exact ⟨W',ms',rfl,hL⟩
 rintro y hs ⟨W1,ms1,hL1,rfl,rfl⟩
 have hT1:=hT.later hL1
 (repeat show _∧_;first|refine yr ?_|refine yt ?_|refine yf ?_|refine yo ?_)
 refine call_same (fn_light (h.later hL1)) [0] rfl (by (repeat first|exact trivial|refine ent1 ?_)) (by (repeat first|exact trivial|refine ent1 ?_)) (fun _ _=>trivial) ?_
 rintro x hs' ⟨rfl,rfl⟩
 rw [hL]
 (repeat show _∧_;first|refine yr ?_|refine yt ?_|refine yf ?_|refine yo ?_)
 refine call_past (fn_erowF (h.later hL1) (hK.later hL1) hl2.1 (by omega)) 0 [] rfl rfl (by (repeat first|exact trivial|refine ent1 ?_)) (by (repeat first|exact trivial|refine ent1 ?_)) (fun _ _=>trivial) (fun x hs hr=>?_) ?_
 ·obtain ⟨_,_,W',ms',hL,_,_,rfl⟩:=hr
  exact ⟨W',ms',rfl,hL⟩
 rintro y hs ⟨a2,c2,W2,ms2,hL2,hrow,rfl,rfl⟩
 have hT2:=hT1.later hL2
 obtain ⟨row,hrw⟩:∃ row,rowE ks es 0 0#64=row:=⟨_,rfl⟩
 have hrl:row.length=n:=by rw [← hrw,rowE_len,hlen]
 have hgood:GoodL 0#64 row:=by rw [← hrw]; exact (row_good ks es 0 0#64 (by decide)).1
 rw [hrw] at hrow
 have hpm:=prt_good hgood (by omega)
 have hpp:=print_parse hpm (by omega)
 have hrlen:=root_len hpm
 have e0:decide ((0:Int)<((n:Nat):Int))=true∨decide ((0:Int)<((n:Nat):Int))=false:=by
  cases decide ((0:Int)<((n:Nat):Int))
  ·exact .inr rfl
  ·exact .inl rfl
 obtain ⟨e2⟩:Nonempty (cut=true→decide ((0:Int)<((n:Nat):Int))=false):=⟨fun hc=>by
  rcases hcn with h|h
  ·rw [h] at hc; cases hc
  ·exact decide_eq_false (by omega)⟩
 clear hcn e0
 cases cut
 case' true=>have e1:=e2 rfl
 case' true=>(repeat show _∧_;first|refine yr ?_|refine yt ?_|refine yf ?_|refine ya e1 ?_|refine yb e1 ?_|refine yo ?_)
 case' false=>(repeat show _∧_;first|refine yr ?_|refine yt ?_|refine yf ?_|refine yo ?_)
 all_goals
  refine call_past (fn_qprint' hT2 hrow) 0 [] rfl rfl (by (repeat first|exact trivial|refine ent1 ?_)) (by (repeat first|exact trivial|refine ent1 ?_)) (fun _ _=>trivial) (fun x hs hr=>?_) ?_
  ·obtain ⟨W',ms',h1,rfl,_⟩:=hr
   exact ⟨W',ms',rfl,h1⟩
  rintro y hs ⟨W3,ms3,hL3,rfl,rfl⟩
  rw [hpm,if_pos rfl]
  (repeat show _∧_;first|refine yr ?_|refine yt ?_|refine yf ?_|refine yo ?_)
  refine call_past (fn_qparse' (hT2.later hL3) (put 4 (rootJ row)) (by omega)) 0 [] rfl rfl (by exact And.intro rfl trivial) (by (repeat first|exact trivial|refine ent1 ?_)) (fun _ _=>trivial) (fun x hs hr=>?_) ?_
  ·rw [hpp] at hr
   obtain ⟨_,_,_,W',ms',h1,_,_,rfl⟩:=hr
   exact ⟨W',ms',rfl,h1⟩
  rintro y hs hr
  rw [hpp] at hr
  obtain ⟨a4,n4,c4,W4,ms4,hL4,hE4,rfl,rfl⟩:=hr
  have hrow4:=(hrow.later hL3).later hL4
  (repeat show _∧_;first|refine yr ?_|refine yt ?_|refine yf ?_|refine yo ?_)
  refine call_same (fn_printed hrow4 (good_all0 hgood) (by omega)) [0] rfl (by (repeat first|exact trivial|refine ent1 ?_)) (by (repeat first|exact trivial|refine ent1 ?_)) (fun _ _=>trivial) ?_
  rintro x hs' ⟨rfl,rfl⟩
  have hcmp:decide (U8 (put 4 (rootJ row))=U8 (put 4 (rootJ row)))=true:=decide_eq_true rfl
  (repeat show _∧_;first|refine yr ?_|refine yt ?_|refine yf ?_|refine ya hcmp ?_|refine yb hcmp ?_|refine yo ?_)
  refine call_same (fn_bsame hE4 hrow4) [0] rfl (by (repeat first|exact trivial|refine ent1 ?_)) (by (repeat first|exact trivial|refine ent1 ?_)) (fun _ _=>trivial) ?_
  rintro x hs' ⟨⟨r,hr,rfl⟩,rfl⟩
  have hr1:r=true:=hr.2 rfl
  subst hr1
  (repeat show _∧_;first|refine yr ?_|refine yt ?_|refine yf ?_|refine ya hcmp ?_|refine yb hcmp ?_|refine yo ?_)
  exact FinW.of ⟨.a (.c (.bool true)),_,⟨[0],⟨rfl,rfl,rfl⟩,by (repeat first|exact trivial|refine ent1 ?_)⟩,W4,ms4,((hL1.trans hL2).trans hL3).trans hL4,rfl,rfl⟩
set_option maxRecDepth 20000 in
set_option maxHeartbeats 16000000 in
theorem fn_qback2 {W:World} {ms:List Nat} (hT:Tabs W ms) {a:Option Addr} {n c:Nat} {es:List Ev} (h:EvsAt W ms a n c es) {aK:Option Addr} {nK cK:Nat} {ks:Bs} (hK:BsAt W ms aK nK cK ks) (hL:lightE es=true) (hn:0<n) :
  FnR Tryd.prog tds 7 1 [[.past W ms]] [.c (.slc a n c),.c (.slc aK nK cK),.c (.bool true)] (fun _=>True) (LawA W ms):=by
 have hlen:=h.len
 have hl2:=light2 hL
 refine fn_of_bodyW tds_ok follows_ Tryd.func7 rfl (t:=.a (.c (.slc a n c))::.a (.c (.slc aK nK cK))::.a (.c (.bool true))::anys (Tryd.f7.ntmps-3)) rfl (fun w r0 hr _=>?_)
 obtain ⟨x0,rfl⟩:=List.length_eq_one_iff.1 hr
 (repeat show _∧_;first|refine yr ?_|refine yt ?_|refine yf ?_|refine yo ?_)
 refine call_past (fn_qawake hT) 0 [] rfl rfl (by (repeat first|exact trivial|refine ent1 ?_)) (by (repeat first|exact trivial|refine ent1 ?_)) (fun _ _=>trivial) (fun x hs hr=>?_) ?_
 ·obtain ⟨W',ms',hL,_,rfl⟩:=hr
  exact ⟨W',ms',rfl,hL⟩
 rintro y hs ⟨W0,ms0,hL0,rfl,rfl⟩
 have hT0:=hT.later hL0
 (repeat show _∧_;first|refine yr ?_|refine yt ?_|refine yf ?_|refine yo ?_)
 refine call_same (fn_light (h.later hL0)) [0] rfl (by (repeat first|exact trivial|refine ent1 ?_)) (by (repeat first|exact trivial|refine ent1 ?_)) (fun _ _=>trivial) ?_
 rintro x hs' ⟨rfl,rfl⟩
 rw [hL]
 (repeat show _∧_;first|refine yr ?_|refine yt ?_|refine yf ?_|refine yo ?_)
 refine call_past (fn_erow (h.later hL0) (hK.later hL0) hl2.1 (by omega) hn) 0 [] rfl rfl (by (repeat first|exact trivial|refine ent1 ?_)) (by (repeat first|exact trivial|refine ent1 ?_)) (fun _ _=>trivial) (fun x hs hr=>?_) ?_
 ·obtain ⟨W',ms',cs,c',h1,_,_,_,rfl⟩:=hr
  exact ⟨W',ms',rfl,h1⟩
 rintro y hs' ⟨W1,ms1,cs,c',hL1,hrow,hc',rfl,rfl⟩
 have hT1:=hT0.later hL1
 obtain ⟨row,hrw⟩:∃ row,rowE ks es 0 0#64=row:=⟨_,rfl⟩
 have hrl:row.length=n:=by rw [← hrw,rowE_len,hlen]
 have hg0:=row_good ks es 0 0#64 (by decide)
 rw [hrw] at hrow hg0
 obtain ⟨z,hz⟩:∃ z,row[n-1]?=some z:=⟨_,List.getElem?_eq_getElem (by omega)⟩
 obtain ⟨zx,hzc,_⟩:=hrow.elt (n-1) z hz
 have hzt:cs[(n-1)*4+1]?=some (.w64 z.t):=hzc 1 _ rfl
 have kn:decide ((0:Int)<(n:Int))=true:=decide_eq_true (by omega)
 (repeat show _∧_;first|refine yr ?_|refine yt ?_|refine yf ?_|refine ya kn ?_|refine yb kn ?_|refine yo ?_)
 rw [mp_row hrow.raw]
 refine And.intro (show ((n:Int)-1).toNat*4+1<scale c' (3+1) by rw [sc4]; omega) ?_
 refine frc_eq (y:=.w64 z.t) (by rw [show ((n:Int)-1).toNat*4+1=(n-1)*4+1 by omega]; exact nthC_get? hzt) ?_
 (repeat show _∧_;first|refine yr ?_|refine yt ?_|refine yf ?_|refine yo ?_)
 refine And.intro (show 0+4≤4 by decide) ?_
 refine And.intro (show 0+scale 1 (3+1)≤4 by decide) ?_
 refine And.intro ⟨hc',by first|omega|(rw [sc4]; omega),show (n+1)*64≤140737488355328 by omega⟩ ?_
 intro cA hcA
 (repeat show _∧_;first|refine yr ?_|refine yt ?_|refine yf ?_|refine yo ?_)
 obtain ⟨rowX,hrX⟩:∃ rowX,rowX=row++[⟨19#8,z.t,[],[]⟩]:=⟨_,rfl⟩
 have hrowX:RowAt W1 ms1 (cs++flat (evS ⟨19#8,z.t,[],[]⟩ ⟨none,0,0,none,0,0⟩)) rowX:=by rw [hrX]; exact hrow.snoc ⟨SlAt.nul,SlAt.nul⟩
 have hrl2:rowX.length=n+1:=by rw [hrX,List.length_append,hrl]; rfl
 have hzl:row.getLast?=some z:=by rw [List.getLast?_eq_getElem?,hrl]; exact hz
 have hzt2:=good_last hg0.1 hzl
 have hgood:GoodL 0#64 rowX:=by
  rw [hrX]
  refine GoodL.snoc hg0.1 hg0.2 ?_
  rw [hzl]
  exact ⟨rfl,Nat.le_refl _,hzt2,rfl,fun n hn=>(by cases hn),Nat.zero_le _,fun _=>rfl⟩
 have hpm:=prt_good hgood (by omega)
 have hpp:=print_parse hpm (by omega)
 have hrlen:=root_len hpm
 refine call_lend [3] 0 [] rfl rfl (by (repeat first|exact trivial|refine ent1 ?_)) NoP.nil (fun _ _=>trivial) (fun W' ms' α hL' hI=>⟨[.c (.slc (some ((α 3).add (0+0))) (n+1) cA)],?_,(fn_qprint' (hT1.later hL') (hrowX.frzF (F:=fun j=>memB j [3]) hL' (by exact fun j hj=>app_cs (by rw [hrow.len,hrl]) (fun _ _=>rfl) rfl (fun j hj=>updN_new hj) j hj) (hI 3 rfl) hrl2 hcA (by omega))).mono (Res':=fun y hs=>y=.tup [.c (.str (U8 (put 4 (rootJ rowX)))),.c (.int .i64 0)]∧hs.drop 1=[]) (fun x hs hr=>?_)⟩) (fun x hs hr=>?_) ?_
 ·(repeat first|exact trivial|refine ent1 ?_)
 ·obtain ⟨_,_,_,rfl,rfl⟩:=hr
  rw [hpm,if_pos rfl]
  exact ⟨rfl,rfl⟩
 ·rw [hr.2]; exact NoP.nil
 rintro x hs ⟨rfl,hdrop⟩
 rw [hdrop]
 (repeat show _∧_;first|refine yr ?_|refine yt ?_|refine yf ?_|refine yo ?_)
 refine call_past (fn_qparse' hT1 (put 4 (rootJ rowX)) (by omega)) 0 [] rfl rfl (by exact And.intro rfl trivial) (by (repeat first|exact trivial|refine ent1 ?_)) (fun _ _=>trivial) (fun x hs hr=>?_) ?_
 ·rw [hpp] at hr
  obtain ⟨_,_,_,W',ms',h1,_,_,rfl⟩:=hr
  exact ⟨W',ms',rfl,h1⟩
 rintro y hs hr
 rw [hpp] at hr
 obtain ⟨a2,n2,c2,W2,ms2,hL2,hE2,rfl,rfl⟩:=hr
 have hrow2:=hrowX.later hL2
 (repeat show _∧_;first|refine yr ?_|refine yt ?_|refine yf ?_|refine yo ?_)
 refine call_lend [3] 0 [] rfl rfl (by (repeat first|exact trivial|refine ent1 ?_)) NoP.nil (fun _ _=>trivial) (fun W' ms' α hL' hI=>⟨[.c (.slc (some ((α 3).add (0+0))) (n+1) cA)],?_,(fn_printed (hrow2.frzF (F:=fun j=>memB j [3]) hL' (by exact fun j hj=>app_cs (by rw [hrow.len,hrl]) (fun _ _=>rfl) rfl (fun j hj=>updN_new hj) j hj) (hI 3 rfl) hrl2 hcA (by omega)) (good_all0 hgood) (by omega)).mono (Res':=fun y hs=>y=.a (.c (.str (U8 (put 4 (rootJ rowX)))))∧hs.drop 1=[]) (fun x hs hr=>?_)⟩) (fun x hs hr=>?_) ?_
 ·(repeat first|exact trivial|refine ent1 ?_)
 ·obtain ⟨rfl,rfl⟩:=hr
  exact ⟨rfl,rfl⟩
 ·rw [hr.2]; exact NoP.nil
 rintro x hs ⟨rfl,hdrop⟩
 rw [hdrop]
 have hcmp:decide (U8 (put 4 (rootJ rowX))=U8 (put 4 (rootJ rowX)))=true:=decide_eq_true rfl
 (repeat show _∧_;first|refine yr ?_|refine yt ?_|refine yf ?_|refine ya hcmp ?_|refine yb hcmp ?_|refine yo ?_)
 refine call_lend [3] 0 [] rfl rfl (by (repeat first|exact trivial|refine ent1 ?_)) NoP.nil (fun _ _=>trivial) (fun W' ms' α hL' hI=>⟨[.c (.slc a2 n2 c2),.c (.slc (some ((α 3).add (0+0))) (n+1) cA)],?_,(fn_bsame (hE2.later hL') (hrow2.frzF (F:=fun j=>memB j [3]) hL' (by exact fun j hj=>app_cs (by rw [hrow.len,hrl]) (fun _ _=>rfl) rfl (fun j hj=>updN_new hj) j hj) (hI 3 rfl) hrl2 hcA (by omega))).mono (Res':=fun y hs=>y=.a (.c (.bool true))∧hs.drop 1=[]) (fun x hs hr=>?_)⟩) (fun x hs hr=>?_) ?_
 ·(repeat first|exact trivial|refine ent1 ?_)
 ·obtain ⟨⟨r,hr,rfl⟩,rfl⟩:=hr
  have hr1:r=true:=hr.2 rfl
  subst hr1
  exact ⟨rfl,rfl⟩
 ·rw [hr.2]; exact NoP.nil
 rintro x hs ⟨rfl,hdrop2⟩
 rw [hdrop2]
 (repeat show _∧_;first|refine yr ?_|refine yt ?_|refine yf ?_|refine ya hcmp ?_|refine yb hcmp ?_|refine yo ?_)
 exact FinW.of ⟨.a (.c (.bool true)),_,⟨[0],⟨rfl,rfl,rfl⟩,by (repeat first|exact trivial|refine ent1 ?_)⟩,W2,ms2,(hL0.trans hL1).trans hL2,rfl,rfl⟩
theorem fn_qback {W:World} {ms:List Nat} (hT:Tabs W ms) {a:Option Addr} {n c:Nat} {es:List Ev} (h:EvsAt W ms a n c es) {aK:Option Addr} {nK cK:Nat} {ks:Bs} (hK:BsAt W ms aK nK cK ks) (cut:Bool) :
  FnR Tryd.prog tds 7 1 [[.past W ms]] [.c (.slc a n c),.c (.slc aK nK cK),.c (.bool cut)] (fun _=>True) (LawA W ms):=by
 cases hL:lightE es with
 | false=>exact fn_qback0 hT h cut hL
 | true =>
  cases cut with
  | false=>exact fn_qback1 hT h hK false hL (.inl rfl)
  | true =>
   rcases Nat.eq_zero_or_pos n with hn|hn
   ·exact fn_qback1 hT h hK true hL (.inr hn)
   ·exact fn_qback2 hT h hK hL hn
end Sx
end
section
namespace Sx
open Go.RowKit Sha Vi Js

theorem laysU8:Go.Proofs.Lays.n260 Tryd.prog Tryd.lays197_ren:={ Tryd.lays197 with }
theorem extraU8:Go.Proofs.U8Extra Tryd.prog Tryd.lays197_ren:=⟨by kernel_rfl,by kernel_rfl,by kernel_rfl,by kernel_rfl,by kernel_rfl,by kernel_rfl,by kernel_rfl⟩
theorem first_eq:Rows.laid_unicode_utf8_first=Lib.firstData:=by kernel_rfl
theorem accept_eq:(Rows.laid_unicode_utf8_acceptRanges:DataW Unit)=Lib.acceptData:=by kernel_rfl
theorem pow_eq:(Rows.laid_internal_strconv_uint64pow10:DataW Unit)=Lib.tabData .u64 Lib.pow10Tab:=by kernel_rfl
theorem tabIs_reads {P:Program} {W:World} {name:String} {k:IntKind} {zs:List Int} {g:Nat} {t e:TypeId} {n:Nat}
  (hg:P.globalNamed name=some g) (hty:(P.globals[g]?).map (·.type)=some t) (ht:P.underlying t=some (.array n e)) (he:P.underlying e=some (.int k)) (hce:P.cellsOf e=1) (hct:P.cellsOf t=n)
  (h:Lib.VarReads P W name (Lib.tabData k zs)):Lib.TabIs P W name k zs:=by
 obtain ⟨g',t',cs,fuel,p,hg',ht',hvar,hd⟩:=h
 obtain rfl:=Option.some.inj (hg.symm.trans hg')
 obtain rfl:=Option.some.inj (hty.symm.trans ht')
 unfold Lib.TabIs
 rw [hvar,← Lib.cells_of_tab ht he hce hct hd]
theorem size_reads {P:Program} {W:World} {name:String} {d:DataW Unit} {g:Nat} (hg:P.globalNamed name=some g) (h:Lib.VarReads P W name d):g<W.heap.size:=by
 obtain ⟨g',t',cs,fuel,p,hg',ht',hvar,hd⟩:=h
 obtain rfl:=Option.some.inj (hg.symm.trans hg')
 rcases Nat.lt_or_ge g W.heap.size with h|h
 ·exact h
 ·unfold World.var? at hvar
  rw [hg] at hvar
  simp [Array.getElem?_eq_none h] at hvar
theorem tabs_of_laid {W:World} (h:laidMetH Tryd.prog Rows.jsonErrorsRow.laid W):Tabs W []:=by
 rw [MakeChecks.laidMetH_plain _ _ _ (by kernel_rfl)] at h
 have r5:=Lib.laidMet.reads h (.tail _ (.head _))
 have r3:=Lib.laidMet.reads h (.tail _ (.tail _ (.head _)))
 have r1:=Lib.laidMet.reads h (.tail _ (.tail _ (.tail _ (.head _))))
 have r0:=Lib.laidMet.reads h (.tail _ (.tail _ (.tail _ (.tail _ (.head _)))))
 rw [first_eq] at r0
 rw [accept_eq] at r1
 rw [pow_eq] at r3
 refine ⟨Go.Proofs.utf8Tabs_of_reads laysU8 extraU8 r0 r1,tabIs_reads (P:=Tryd.prog) (name:=p10n) p10_glob (by kernel_rfl) (t:=156) (e:=23) (n:=20) Tryd.underlying156 Tryd.underlying23 (by kernel_rfl) (by kernel_rfl) (by exact r3),?_,fun B _=>List.not_mem_nil⟩
 exact size_reads (g:=5) (by kernel_rfl) r5
end Sx
end
end Go.Proofs.YtnehmcpkeamghaaDoor
