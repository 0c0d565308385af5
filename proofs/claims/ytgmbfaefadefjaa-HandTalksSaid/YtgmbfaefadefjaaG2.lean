/-
  Texts of this claim, part 2: Sxj, Sxk, Sxl, Sxm, Sxm2, Sxm3, Sxn. No condition of its own.
-/
import Derived.Laws.Tables
import Derived.Laws.IdiomStrings
import Derived.Test.YtgmbfaefadefjaaG1
namespace Go.Proofs.Ytgmbfaefadefjaa
set_option linter.unusedVariables false
section
namespace Sx
open Go.RowKit

theorem toSegs_spec {x:SV} {K:List Seg→Prop} (h:toSegs x K):∃ l,K l∧∀ (r:Rho) v,x.Is r v→∃ vs:List Value,v.cells=vs.toArray∧IsL r (flat l) vs:=by
 unfold toSegs at h
 split at h
 ·rename_i y
  refine ⟨_,h,fun r v hv=>⟨[v],?_,by simp [flat],fun j x e=>?_⟩⟩
  ·have h1:v.oneCell'=true:=SC.Is.one (x:=y) hv
   cases v <;> first|rfl|cases h1
  ·cases j with
   | zero=>simp [flat] at e; subst e; exact ⟨v,rfl,hv⟩
   | succ j=>simp [flat] at e
 ·refine ⟨_,h,fun r v hv=>?_⟩
  obtain ⟨vs,rfl,hi⟩:=hv
  exact ⟨vs,rfl,hi⟩
 ·exact h.elim
theorem fold_set (off:Nat):∀ (vs:List Value) (k:Nat) (cs:Array Value),((vs.zipIdx k).foldl (fun cs (x:Value × Nat)=>cs.setIfInBounds (off+x.2) x.1) cs).size=cs.size ∧
  ∀ j,j<cs.size→((vs.zipIdx k).foldl (fun cs (x:Value × Nat)=>cs.setIfInBounds (off+x.2) x.1) cs)[j]?=if off+k≤j∧j<off+k+vs.length then vs[j-(off+k)]? else cs[j]?
 | [],k,cs=>⟨rfl,fun j hj=>by simp; omega⟩
 | v::vs,k,cs=>by
  obtain ⟨h1,h2⟩:=fold_set off vs (k+1) (cs.setIfInBounds (off+k) v)
  simp only [List.zipIdx_cons,List.foldl_cons]
  refine ⟨by rw [h1]; simp,fun j hj=>?_⟩
  rw [h2 j (by simpa using hj)]
  by_cases hc:off+(k+1)≤j∧j<off+(k+1)+vs.length
  ·rw [if_pos hc,if_pos (by simp; omega),show j-(off+k)=(j-(off+(k+1)))+1 by omega]; rfl
  ·rw [if_neg hc]
   by_cases he:j=off+k
   ·subst he
    rw [if_pos (by simp),Nat.sub_self]
    simp [hj]
   ·rw [if_neg (by simp; omega),Array.getElem?_setIfInBounds_ne (by omega)]
theorem IsL.put {r:Rho} {l l' new:List Seg} {at_:Nat} (h:Put new l l' at_) {cs:Array Value} {vs:List Value} (hc:IsL r (flat l) cs.toList) (hv:IsL r (flat new) vs) :
  IsL r (flat l') ((vs.zipIdx.foldl (fun cs (x:Value × Nat)=>cs.setIfInBounds (at_+x.2) x.1) cs)).toList∧at_+vs.length≤cs.size:=by
 obtain ⟨h1,h2,h3⟩:=h
 obtain ⟨f1,f2⟩:=fold_set at_ vs 0 cs
 have hlen:cs.size=(flat l).length:=by rw [hc.1]; simp
 refine ⟨⟨by rw [h2,hc.1]; simp [f1],fun j x e=>?_⟩,by rw [← hv.1,hlen]; exact h1⟩
 have hj:j<cs.size:=by
  rw [hlen,← h2]
  rcases Nat.lt_or_ge j (flat l').length with h|h
  ·exact h
  ·rw [List.getElem?_eq_none h] at e; cases e
 rw [Array.getElem?_toList,f2 j hj]
 rw [h3] at e
 rw [← hv.1]
 by_cases hh:at_≤j∧j<at_+(flat new).length
 ·rw [if_pos hh] at e
  rw [if_pos (by simpa using hh)]
  exact hv.2 _ x e
 ·rw [if_neg hh] at e
  rw [if_neg (by simpa using hh)]
  obtain ⟨v,e1,e2⟩:=hc.2 j x e
  exact ⟨v,by simpa using e1,e2⟩
section
variable {C : Cx} {t : List SV} {h : List (List Seg)} {r : Rho} {a : Act} {w : World} {k : SV → Prop}
theorem buildL_spec {place:Nat→(Nat→Nat→Nat→Prop)→Prop} {pl:Nat→Option (Nat × Nat)} (ok:Ok C ⟨t,h⟩ r a w) (hpl:∀ i F,place i F→∃ b o n,F b o n∧pl i=some (b+o,n)) :
  ∀ {parts:List (Nat × Operand)} {l:List Seg} {K:List Seg→Prop} {cs:Array Value},buildL t place parts l K→IsL r (flat l) cs.toList →
   ∃ l' cs',K l'∧IsL r (flat l') cs'.toList∧(flat l').length=(flat l).length∧Instr.fill pl cs (parts.map fun p=>(p.1,a.eval p.2))=some cs'∧(hd1 l=true→hd1 l'=true)
 | [],l,K,cs,hk,hc=>⟨l,cs,hk,hc,rfl,rfl,id⟩
 | (i,x)::parts,l,K,cs,hk,hc=>by
  obtain ⟨b,o,n,hk,hp⟩:=hpl _ _ hk
  obtain ⟨new,hk,hn⟩:=toSegs_spec hk
  obtain ⟨hlen,hk⟩:=hk
  obtain ⟨l',hk,hput,hhd⟩:=putS_spec hk
  obtain ⟨vs,hvs,hv⟩:=hn r _ (ok.ev x)
  obtain ⟨hc',hb⟩:=IsL.put hput hc hv
  obtain ⟨l'',cs'',h1,h2,h3,h4,h5⟩:=buildL_spec (pl:=pl) ok hpl hk hc'
  refine ⟨l'',cs'',h1,h2,by rw [h3,hput.2.1],?_,fun _=>h5 hhd⟩
  simp only [List.map_cons,Instr.fill,hp,hvs]
  have hs:vs.toArray.size=n:=by rw [← hlen,hv.1]; simp
  rw [if_neg (by rw [hs]; simp; rw [← hs]; simpa using hb)]
  rw [← h4]
  congr 1
  rw [← Array.foldl_toList,Array.toList_zipIdx]
theorem setC_spec:∀ {l:List SC} {i:Nat} {x:SC} {K:List SC→Prop},buildR.setC l i x K→i<l.length∧K (l.set i x)
 | [],_,_,_,h=>h.elim
 | _::r,0,x,K,h=>⟨by simp,h⟩
 | y::r,n+1,x,K,h=>by
  obtain ⟨h1,h2⟩:=setC_spec (l:=r) (i:=n) h
  exact ⟨by simp; omega,h2⟩
theorem cells_one {v:Value} (h:v.oneCell'=true):v.cells=#[v]:=by
 cases v <;> first|rfl|cases h
theorem buildR_spec (ok:Ok C ⟨t,h⟩ r a w) :
  ∀ {parts:List (Nat × Operand)} {l:List SC} {K:List SC→Prop} {cs:Array Value},buildR t parts l K→IsL r l cs.toList →
   ∃ l' cs',K l'∧IsL r l' cs'.toList∧l'.length=l.length∧Instr.fill (fun i=>some (i,1)) cs (parts.map fun p=>(p.1,a.eval p.2))=some cs'
 | [],l,K,cs,hk,hc=>⟨l,cs,hk,hc,rfl,rfl⟩
 | (i,x)::parts,l,K,cs,hk,hc=>by
  obtain ⟨p,hk,hp,_⟩:=ev_c ok hk
  obtain ⟨hi,hk⟩:=setC_spec hk
  have hlen:cs.size=l.length:=by rw [hc.1]; simp
  have hc':IsL r (l.set i p) (cs.setIfInBounds i (a.eval x)).toList:=by
   refine ⟨by simp [hlen],fun j y e=>?_⟩
   rw [List.getElem?_set] at e
   by_cases hj:i=j
   ·subst hj
    simp [hi] at e
    subst e
    exact ⟨_,by simp [hlen,hi],hp⟩
   ·rw [if_neg hj] at e
    obtain ⟨v,e1,e2⟩:=hc.2 j y e
    exact ⟨v,by rw [Array.getElem?_toList,Array.getElem?_setIfInBounds_ne hj]; simpa using e1,e2⟩
  obtain ⟨l'',cs'',h1,h2,h3,h4⟩:=buildR_spec ok hk hc'
  refine ⟨l'',cs'',h1,h2,by rw [h3]; simp,?_⟩
  simp only [List.map_cons,Instr.fill,cells_one hp.one]
  rw [if_neg (by simp; omega),← h4]
  congr 1
theorem zero_cells {P:Program} {u:TypeId} {d:TD} (hd:TdOk P u d) (r:Rho):IsL r (flat d.zero) ((flat d.zero).map SC.val) :=
 ⟨by simp,fun j x e=>⟨x.val,by simp [e],SC.is_val r (by have:=List.all_eq_true.1 hd.plain x (List.mem_of_getElem? e); exact this)⟩⟩
theorem zeroVal_agg {d:TD} (h:d.isAgg=true):d.zeroVal.cells=((flat d.zero).map SC.val).toArray:=by
 unfold TD.zeroVal
 rw [if_pos h]; rfl
theorem map_parts (parts:Array (Nat × Operand)) (f:Operand→Value):(parts.map fun (i,x)=>(i,f x)).toList=parts.toList.map fun p=>(p.1,f p.2):=by
 rw [Array.toList_map]
theorem places_of {P:Program} {T:List (Nat × TD)} (hT:AllT P T):∀ {fs:List Field},allIn T (fs.map fun f=>(f.type,f.offset))=true→fs.mapM (fun f=>(P.info? f.type).map fun i=>(f.offset,i.size))=some (fs.map fun f=>(f.offset,((P.info? f.type).map (·.size)).getD 0))
 | [],_=>rfl
 | f::fs,h=>by
  simp only [List.map_cons,allIn] at h
  split at h
  ·rename_i d hd
   obtain ⟨i,hi,_⟩:=(hT.find hd).inf
   simp [List.mapM_cons,places_of hT h,hi]
  ·cases h
theorem rd_build {u:TypeId} {parts:Array (Nat × Operand)} (hT:AllT C.P C.T) (ok:Ok C ⟨t,h⟩ r a w) (hk:stepR C (.build u parts) t h k):RdOk C t h (.build u parts) a w r k:=by
 unfold stepR at hk
 obtain ⟨d,hd,hk⟩:=td_spec hT hk
 have hkk:=hd.kind
 obtain ⟨it,hit,_,_,hz⟩:=hd.inf
 have fin:∀ {l':List Seg} {cs':Array Value},k (.a (.agg l'))→IsL r (flat l') cs'.toList→C.P.built u (parts.map fun (i,x)=>(i,a.eval x)).toList=some cs'→RdOk C t h (.build u parts) a w r k:=by
  intro l' cs' h1 h2 h3
  refine ⟨_,_,h1,⟨cs'.toList,rfl,h2⟩,fun o w' ho _=>?_⟩
  simp only [execOp,ho]
  exact exec_v (run_build w' u _ cs' h3)
 split at hk
 ·rename_i fs hkd
  rw [hkd] at hkk
  have hag:d.isAgg=true:=by simp [TD.isAgg,hkd]
  split at hk <;> try exact hk.elim
  rename_i hall
  simp only [TK.Ok] at hkk
  unfold fieldsOf at hkk
  split at hkk <;> try (cases hkk)
  rename_i gs hu
  obtain ⟨l',cs',h1,h2,h3,h4,_⟩:=buildL_spec (pl:=fun i=>((gs.toList.map fun f=>(f.offset,((C.P.info? f.type).map (·.size)).getD 0)).toArray)[i]?) ok (fun i F hF=>by
   split at hF <;> try exact hF.elim
   rename_i e off hf
   obtain ⟨de,hde,hF⟩:=td_spec hT hF
   refine ⟨_,_,_,hF,?_⟩
   rw [nthF_eq,List.getElem?_map,Option.map_eq_some_iff] at hf
   obtain ⟨g,hg,e'⟩:=hf
   simp only [Prod.mk.injEq] at e'
   obtain ⟨rfl,rfl⟩:=e'
   obtain ⟨i',hi',hs',_⟩:=hde.inf
   simp [hg,hi',hs']) hk (cs:=((flat d.zero).map SC.val).toArray) (by simpa using zero_cells hd r)
  refine fin h1 h2 ?_
  rw [map_parts]
  unfold Program.built
  simp only [hit,hu,hz,places_of hT hall,zeroVal_agg hag]
  exact h4
 ·rename_i len e hkd
  rw [hkd] at hkk
  have hag:d.isAgg=true:=by simp [TD.isAgg,hkd]
  simp only [TK.Ok] at hkk
  obtain ⟨de,hde,hk⟩:=td_spec hT hk
  obtain ⟨ie,hie,hsz,_,_⟩:=hde.inf
  have gen:∀ {l':List Seg} {cs':Array Value},k (.a (.agg l'))→IsL r (flat l') cs'.toList→Instr.fill (fun i=>some (i*de.size,de.size)) ((flat d.zero).map SC.val).toArray (parts.toList.map fun p=>(p.1,a.eval p.2))=some cs'→RdOk C t h (.build u parts) a w r k:=by
   intro l' cs' h1 h2 h3
   refine fin h1 h2 ?_
   rw [map_parts]
   unfold Program.built
   simp only [hit,hkk,hz,hie,zeroVal_agg hag,hsz]
   exact h3
  split at hk
  ·rename_i zz m f hz1 hz2
   have hs1:de.size=1:=by rw [← hde.len,hz1]; rfl
   rw [rowSC_eq] at hk
   have hfl:flat d.zero=(List.range' 0 m).map f:=by rw [hz2]; simp [flat,List.range_eq_range']
   obtain ⟨l',cs',h1,h2,h3,h4⟩:=buildR_spec ok hk (cs:=((flat d.zero).map SC.val).toArray) (by rw [← hfl]; simpa using zero_cells hd r)
   refine gen h1 ?_ (by rw [hs1]; simpa using h4)
   have hm:l'.length=m:=by rw [h3]; simp
   have:flat [Seg.row m (nthC l')]=l':=by
    simp only [flat,List.append_nil]
    apply List.ext_getElem?
    intro j
    by_cases hj:j<m
    ·simp [hj,nthC_eq,hm]
    ·simp [hj,hm]
   rw [this]; exact h2
  ·obtain ⟨l',cs',h1,h2,h3,h4,_⟩:=buildL_spec (pl:=fun i=>some (i*de.size,de.size)) ok (fun i F hF=>by
    rw [frcN_eq] at hF
    exact ⟨_,_,_,hF,by simp⟩) hk (cs:=((flat d.zero).map SC.val).toArray) (by simpa using zero_cells hd r)
   exact gen h1 h2 h4
 ·exact hk.elim
theorem rd_field {u:TypeId} {x:Operand} {f:Nat} (hT:AllT C.P C.T) (ok:Ok C ⟨t,h⟩ r a w) (hk:stepR C (.field u x f) t h k):RdOk C t h (.field u x f) a w r k:=by
 unfold stepR at hk
 obtain ⟨d,hd,hk⟩:=td_spec hT hk
 split at hk <;> try exact hk.elim
 rename_i fs l hkd hx
 have hkk:=hd.kind
 rw [hkd] at hkk
 split at hk <;> try exact hk.elim
 rename_i e off hf
 obtain ⟨gs,g,hu,hg,ht,hoff⟩:=struct_field hkk hf
 obtain ⟨de,hde,hk⟩:=td_spec hT hk
 obtain ⟨l',hk,hl,hs⟩:=loadS_spec hk
 rw [tot_shape,hde.len] at hl
 have hv:=ok.ev x
 simp only [hx] at hv
 obtain ⟨vs,e1,hv⟩:=hv
 obtain ⟨v,z,h1,h2,h3⟩:=part_core (P:=C.P) hde hk hl hv (off:=off) (by simpa using hs)
 refine ⟨v,z,h1,h2,fun o' w' ho hx=>?_⟩
 simp only [execOp,ho]
 refine exec_v ?_
 simp only [Instr.field,Sem.run_bind,run_underlying hu,Result.andThen_ok,hg,e1,asAgg,ht,hoff]
 exact h3 w'
theorem nthA_spec:∀ {l:List SA} {i:Nat} {K:SA→Prop},nthA l i K→∃ x,l[i]?=some x∧K x
 | .c _::_,0,_,h=>⟨_,rfl,h⟩
 | .agg _::_,0,_,h=>⟨_,rfl,h⟩
 | .c _::r,_+1,_,h=>nthA_spec (l:=r) h
 | .agg _::r,_+1,_,h=>nthA_spec (l:=r) h
 | [],_,_,h=>h.elim
theorem rd_extract {x:Operand} {i:Nat} (ok:Ok C ⟨t,h⟩ r a w) (hk:stepR C (.extract x i) t h k):RdOk C t h (.extract x i) a w r k:=by
 have hk:(match ev t x with
  | .tup l=>nthA l i fun v=>k (.a v)
  | _=>False):=hk
 split at hk <;> try exact hk.elim
 rename_i l hx
 obtain ⟨y,hy,hk⟩:=nthA_spec hk
 have hv:=ok.ev x
 simp only [hx] at hv
 obtain ⟨vs,e1,_,hv⟩:=hv
 obtain ⟨u,e2,hu⟩:=hv i y hy
 refine ⟨u,_,hk,hu,fun o' w' ho hx=>?_⟩
 simp only [execOp,ho]
 refine exec_v ?_
 simp only [Instr.extract,e1]
 simp [e2]
theorem rd_index {u:TypeId} {x ix:Operand} (hT:AllT C.P C.T) (ok:Ok C ⟨t,h⟩ r a w) (hk:stepR C (.index u x ix) t h k):RdOk C t h (.index u x ix) a w r k:=by
 unfold stepR at hk
 obtain ⟨d,hd,hk⟩:=td_spec hT hk
 obtain ⟨q,hk,hq,_⟩:=ev_c ok hk
 obtain ⟨n,hk,hn⟩:=idx_spec hk
 obtain ⟨kk,hn⟩:=hn _ _ hq
 have hkk:=hd.kind
 split at hk <;> try exact hk.elim
 ·rename_i l hkd hx
  rw [hkd] at hkk
  simp only [TK.Ok] at hkk
  have hv:=ok.ev x
  simp only [hx] at hv
  have hv:a.eval x=.string ⟨l.toArray⟩:=hv
  obtain ⟨hin,hk⟩:=hk
  have hlt:n.toNat<l.length:=by omega
  refine ⟨.int .u8 ((l.getD n.toNat 0).toNat:Int),_,hk,rfl,fun o' w' ho hx=>?_⟩
  simp only [execOp,ho]
  refine exec_v ?_
  simp only [Instr.index,hn,hv,Sem.run_bind,run_asInt,run_underlying hkk,Result.andThen_ok]
  have e:(⟨l.toArray⟩:ByteArray)[n.toNat]?=some (l.getD n.toNat 0):=by
   have hs:n.toNat<(⟨l.toArray⟩:ByteArray).size:=hlt
   rw [getElem?_pos (⟨l.toArray⟩:ByteArray) n.toNat hs]
   simp only [List.getD,List.getElem?_eq_getElem hlt]
   rfl
  simp [hin.1,e,pure]
 ·rename_i len e l hkd hx
  rw [hkd] at hkk
  simp only [TK.Ok] at hkk
  obtain ⟨de,hde,hk⟩:=td_spec hT hk
  obtain ⟨hin,hk⟩:=hk
  obtain ⟨l',hk,hl,hs⟩:=loadS_spec (elt_spec hk)
  rw [tot_shape,hde.len] at hl
  have hv:=ok.ev x
  simp only [hx] at hv
  obtain ⟨vs,e1,hv⟩:=hv
  obtain ⟨v,z,h1,h2,h3⟩:=part_core (P:=C.P) hde hk hl hv (off:=n.toNat*de.size) (by simpa using hs)
  refine ⟨v,z,h1,h2,fun o' w' ho hx=>?_⟩
  simp only [execOp,ho]
  refine exec_v ?_
  simp only [Instr.index,hn,e1,Sem.run_bind,run_asInt,run_underlying hkk,Result.andThen_ok]
  simp only [hin,if_true,true_and]
  simp only [Sem.run_bind,hde.sizeOf,Result.andThen_ok]
  exact h3 w'
end
end Sx
end
section
namespace Sx
open Go.RowKit

section
variable {C : Cx} {t : List SV} {h : List (List Seg)} {r : Rho} {a : Act} {w : World} {k : SV → Prop}
theorem bound_spec (ok:Ok C ⟨t,h⟩ r a w) {dflt:Nat} {x:Option Operand} {K:Int→Prop} (hk:bound t dflt x K) :
  ∃ n,K n∧(match x with|none=>n=(dflt:Int)|some x=>∃ kk,a.eval x=.int kk n):=by
 unfold bound at hk
 split at hk
 ·exact ⟨_,hk,rfl⟩
 ·obtain ⟨q,hk,hq,_⟩:=ev_c ok hk
  obtain ⟨n,hk,hn⟩:=idx_spec hk
  exact ⟨n,hk,hn _ _ hq⟩
theorem run_sliceBound {P:Program} {v:Value} {kk:IntKind} {n:Int} {y:Nat} {c:BoundsCode} {w:World} (hv:v=.int kk n) (h0:0≤n) (h1:n≤(y:Int)):(Instr.sliceBound v y c).run P w=.ok n.toNat w:=by
 subst hv
 simp [Instr.sliceBound,run_asInt,h0,h1,pure]
theorem bounds_spec (ok:Ok C ⟨t,h⟩ r a w) {n c:Nat} {lo hi mx:Option Operand} {K:Nat→Nat→Nat→Prop} (hk:bounds t n c lo hi mx K) :
  ∃ l hh m,K l hh m∧l≤hh∧hh≤m∧m≤c∧∀ (g:Bool) (w':World),(Instr.sliceBounds g n c (lo.map a.eval) (hi.map a.eval) (mx.map a.eval)).run C.P w'=.ok (l,hh,m) w':=by
 unfold bounds at hk
 split at hk
 ·rename_i vm
  split at hk
  ·rename_i vh
   obtain ⟨z,hk,hz⟩:=bound_spec ok hk
   obtain ⟨y,hk,hy⟩:=bound_spec ok hk
   obtain ⟨x,hk,hx⟩:=bound_spec ok hk
   obtain ⟨⟨h1,h2,h3,h4⟩,hk⟩:=hk
   rw [frcN_eq,frcN_eq,frcN_eq] at hk
   refine ⟨x.toNat,y.toNat,z.toNat,hk,by omega,by omega,by omega,fun g w'=>?_⟩
   obtain ⟨kz,hz⟩:=hz
   obtain ⟨ky,hy⟩:=hy
   have s3:∀ q w',(Instr.sliceBound (a.eval vm) c q).run C.P w'=.ok z.toNat w':=fun q w'=>run_sliceBound hz (by omega) h4
   have s2:∀ q w',(Instr.sliceBound (a.eval vh) z.toNat q).run C.P w'=.ok y.toNat w':=fun q w'=>run_sliceBound hy (by omega) (by omega)
   cases lo with
   | none =>
    simp only at hx
    subst hx
    simp [Instr.sliceBounds,pure,s2,s3]
   | some v' =>
    obtain ⟨kk,hx⟩:=hx
    have s1:∀ q w',(Instr.sliceBound (a.eval v') y.toNat q).run C.P w'=.ok x.toNat w':=fun q w'=>run_sliceBound hx h1 (by omega)
    simp [Instr.sliceBounds,pure,s1,s2,s3]
  ·exact hk.elim
 ·obtain ⟨y,hk,hy⟩:=bound_spec ok hk
  obtain ⟨x,hk,hx⟩:=bound_spec ok hk
  obtain ⟨⟨h1,h2,h3⟩,hk⟩:=hk
  rw [frcN_eq,frcN_eq] at hk
  refine ⟨x.toNat,y.toNat,c,hk,by omega,by omega,Nat.le_refl _,fun g w'=>?_⟩
  cases hi with
  | none =>
   simp only at hy
   subst hy
   cases lo with
   | none =>
    simp only at hx
    subst hx
    simp [Instr.sliceBounds,pure]
   | some v =>
    obtain ⟨kk,hx⟩:=hx
    have s1:∀ q w',(Instr.sliceBound (a.eval v) n q).run C.P w'=.ok x.toNat w':=fun q w'=>run_sliceBound hx h1 (by simpa using h2)
    simp [Instr.sliceBounds,pure,s1]
  | some v =>
   obtain ⟨kk,hy⟩:=hy
   have s2:∀ q w',(Instr.sliceBound (a.eval v) c q).run C.P w'=.ok y.toNat w':=fun q w'=>run_sliceBound hy (by omega) h3
   cases lo with
   | none =>
    simp only at hx
    subst hx
    simp [Instr.sliceBounds,pure,s2]
   | some v' =>
    obtain ⟨kk,hx⟩:=hx
    have s1:∀ q w',(Instr.sliceBound (a.eval v') y.toNat q).run C.P w'=.ok x.toNat w':=fun q w'=>run_sliceBound hx h1 (by omega)
    simp [Instr.sliceBounds,pure,s1,s2]
theorem str_extract (l:List UInt8) (x y:Nat):(⟨l.toArray⟩:ByteArray).extract x y=⟨((l.drop x).take (y-x)).toArray⟩:=by
 apply ByteArray.ext
 rw [ByteArray.data_extract]
 simp [List.extract_toArray,List.extract_eq_take_drop]
theorem rd_slice {u:TypeId} {x:Operand} {lo hi mx:Option Operand} (hT:AllT C.P C.T) (ok:Ok C ⟨t,h⟩ r a w) (hk:stepR C (.slice u x lo hi mx) t h k):RdOk C t h (.slice u x lo hi mx) a w r k:=by
 unfold stepR at hk
 obtain ⟨d,hd,hk⟩:=td_spec hT hk
 have hkk:=hd.kind
 have hv:=ok.ev x
 split at hk
 ·rename_i l hkd hx
  rw [hkd] at hkk
  simp only [TK.Ok] at hkk
  simp only [hx] at hv
  have hv:a.eval x=.string ⟨l.toArray⟩:=hv
  split at hk <;> try exact hk.elim
  obtain ⟨b,e,m,hk',hbe,hec,hmc,hrun⟩:=bounds_spec ok hk
  refine ⟨_,_,hk',rfl,fun o w' ho _=>?_⟩
  simp only [execOp,ho]
  refine exec_v ?_
  have hsz:(⟨l.toArray⟩:ByteArray).size=l.length:=rfl
  have hr:=hrun false w'
  simp only [Instr.sliceAt,Instr.slice,hv,Sem.run_bind,run_underlying hkk,Result.andThen_ok,hsz]
  simp only [Option.map_none] at hr ⊢
  simp [hr,str_extract,pure]
 ·rename_i e i b o n c hkd hx
  rw [hkd] at hkk
  simp only [TK.Ok] at hkk
  simp only [hx] at hv
  obtain ⟨B,f,hr,hv⟩:=hv
  obtain ⟨de,hde,hk⟩:=td_spec hT hk
  obtain ⟨l,hh,m,hk',hbe,hec,hmc,hrun⟩:=bounds_spec ok hk
  simp only [frcN_eq] at hk'
  refine ⟨_,_,hk',⟨B,f,hr,rfl⟩,fun o' w' ho _=>?_⟩
  simp only [execOp,ho]
  refine exec_v ?_
  have hr:=hrun true w'
  simp only [Instr.sliceAt,Instr.slice,hv,Sem.run_bind,run_underlying hkk,Result.andThen_ok]
  simp [hr,hde.sizeOf,pure]
  split
  ·rfl
  ·simp only [add_none]; congr 2; omega
 ·rename_i e A n c hkd hx
  rw [hkd] at hkk
  simp only [TK.Ok] at hkk
  simp only [hx] at hv
  have hv:a.eval x=.slice A n c:=hv
  obtain ⟨de,hde,hk⟩:=td_spec hT hk
  obtain ⟨l,hh,m,hk',hbe,hec,hmc,hrun⟩:=bounds_spec ok hk
  simp only [frcN_eq] at hk'
  refine ⟨_,_,hk',rfl,fun o' w' ho _=>?_⟩
  simp only [execOp,ho]
  refine exec_v ?_
  have hr:=hrun true w'
  simp only [Instr.sliceAt,Instr.slice,hv,Sem.run_bind,run_underlying hkk,Result.andThen_ok]
  simp [hr,hde.sizeOf,pure]
 ·rename_i len e i b o hkd hx
  rw [hkd] at hkk
  simp only [TK.Ok] at hkk
  simp only [hx] at hv
  obtain ⟨B,f,hr,hv⟩:=hv
  obtain ⟨de,hde,hk⟩:=td_spec hT hk
  obtain ⟨l,hh,m,hk',hbe,hec,hmc,hrun⟩:=bounds_spec ok hk
  simp only [frcN_eq] at hk'
  refine ⟨_,_,hk',⟨B,f,hr,rfl⟩,fun o' w' ho _=>?_⟩
  simp only [execOp,ho]
  refine exec_v ?_
  have hr:=hrun false w'
  simp only [Instr.sliceAt,hv,Sem.run_bind,run_underlying hkk,Result.andThen_ok,Instr.sureAddr]
  simp [hr,hde.sizeOf,pure]
  by_cases hc:m=l
  ·simp [hc]
  ·simp [hc,add_none]; omega
 ·rename_i q i b o hkd hx
  rw [hkd] at hkk
  simp only [TK.Ok] at hkk
  simp only [hx] at hv
  obtain ⟨B,f,hr,hv⟩:=hv
  obtain ⟨dq,hdq,hk⟩:=td_spec hT hk
  have hkq:=hdq.kind
  split at hk <;> try exact hk.elim
  rename_i len e hkd2
  rw [hkd2] at hkq
  simp only [TK.Ok] at hkq
  obtain ⟨de,hde,hk⟩:=td_spec hT hk
  obtain ⟨l,hh,m,hk',hbe,hec,hmc,hrun⟩:=bounds_spec ok hk
  simp only [frcN_eq] at hk'
  refine ⟨_,_,hk',⟨B,f,hr,rfl⟩,fun o' w' ho _=>?_⟩
  simp only [execOp,ho]
  refine exec_v ?_
  have hr:=hrun false w'
  simp only [Instr.sliceAt,Instr.slice,hv,Sem.run_bind,run_underlying hkk,Result.andThen_ok,asAddr,run_underlying hkq]
  simp [hr,hde.sizeOf,pure]
  by_cases hc:m=l
  ·simp [hc]
  ·simp [hc,add_none]; omega
 ·rename_i e z i b o n c hkd hx
  rw [hkd] at hkk
  simp only [TK.Ok] at hkk
  simp only [hx] at hv
  obtain ⟨de,hde,hk⟩:=td_spec hT hk
  obtain ⟨l,hh,m,hk',hbe,hec,hmc,hrun⟩:=bounds_spec ok hk
  simp only [frcN_eq] at hk'
  rcases hv with ⟨rfl,hv,rfl,rfl⟩|⟨rfl,B,f,hr,hv⟩|⟨rfl,rfl,rfl,B,f,s,hv⟩
  ·have e1:l=0:=by omega
   have e2:hh=0:=by omega
   have e3:m=0:=by omega
   subst e1; subst e2; subst e3
   refine ⟨_,_,hk',.inl ⟨rfl,rfl,rfl,rfl⟩,fun o' w' ho _=>?_⟩
   simp only [execOp,ho]
   refine exec_v ?_
   have hr:=hrun true w'
   simp only [Instr.sliceAt,Instr.slice,hv,Sem.run_bind,run_underlying hkk,Result.andThen_ok]
   simp [hr,hde.sizeOf,pure]
  rotate_left
  ·have e1:l=0:=by omega
   have e2:hh=0:=by omega
   have e3:m=0:=by omega
   subst e1; subst e2; subst e3
   refine ⟨_,_,hk',.inr (.inr ⟨rfl,rfl,rfl,B,f,s,rfl⟩),fun o' w' ho _=>?_⟩
   simp only [execOp,ho]
   refine exec_v ?_
   have hr:=hrun true w'
   simp only [Instr.sliceAt,Instr.slice,hv,Sem.run_bind,run_underlying hkk,Result.andThen_ok]
   simp [hr,hde.sizeOf,pure]
  refine ⟨_,_,hk',.inr (.inl ⟨rfl,B,f,hr,rfl⟩),fun o' w' ho _=>?_⟩
  simp only [execOp,ho]
  refine exec_v ?_
  have hr:=hrun true w'
  simp only [Instr.sliceAt,Instr.slice,hv,Sem.run_bind,run_underlying hkk,Result.andThen_ok]
  simp [hr,hde.sizeOf,pure]
  split
  ·rfl
  ·simp only [add_none]; congr 2; omega
 ·exact hk.elim
theorem maxI_spec (ok:Ok C ⟨t,h⟩ r a w):∀ {l:List Operand} {x:Int} {K:Int→Prop},maxI t l x K→∃ n,K n∧∀ w',((l.map a.eval).foldlM Builtin.max2 (.int .i64 x):Sem Value).run C.P w'=.ok (.int .i64 n) w'
 | [],x,K,hk=>⟨x,hk,fun w'=>rfl⟩
 | y::l,x,K,hk=>by
  simp only [maxI] at hk
  obtain ⟨q,hk,hq,_⟩:=ev_c ok hk
  split at hk <;> try exact hk.elim
  have hq:a.eval y=_:=hq
  obtain ⟨n,h1,h2⟩:=maxI_spec ok hk
  refine ⟨n,h1,fun w'=>?_⟩
  rw [List.map_cons,List.foldlM_cons,hq]
  exact h2 w'
theorem maxW_spec (ok:Ok C ⟨t,h⟩ r a w):∀ {l:List Operand} {x:BitVec 64} {K:BitVec 64→Prop},maxW t l x K→∃ n:BitVec 64,K n∧∀ w',((l.map a.eval).foldlM Builtin.max2 (.int .u64 (x.toNat:Int)):Sem Value).run C.P w'=.ok (.int .u64 (n.toNat:Int)) w'
 | [],x,K,hk=>⟨x,hk,fun w'=>rfl⟩
 | y::l,x,K,hk=>by
  simp only [maxW] at hk
  obtain ⟨q,hk,hq,_⟩:=ev_c ok hk
  split at hk <;> try exact hk.elim
  rename_i b _
  have hq:a.eval y=_:=hq
  obtain ⟨n,h1,h2⟩:=maxW_spec ok hk
  refine ⟨n,h1,fun w'=>?_⟩
  rw [List.map_cons,List.foldlM_cons,hq]
  have e:(if x<b then b else x).toNat=if x.toNat<b.toNat then b.toNat else x.toNat:=by
   by_cases hb:x<b
   ·rw [if_pos hb,if_pos (BitVec.lt_def.1 hb)]
   ·rw [if_neg hb,if_neg (fun hc=>hb (BitVec.lt_def.2 hc))]
  have h3:=h2 w'
  rw [e] at h3
  have e2:(if ((b.toNat:Int)) > (x.toNat:Int) then (b.toNat:Int) else (x.toNat:Int))=((if x.toNat<b.toNat then b.toNat else x.toNat:Nat):Int):=by
   by_cases hb:x.toNat<b.toNat
   ·rw [if_pos (by omega),if_pos hb]
   ·rw [if_neg (by omega),if_neg hb]
  show (List.foldlM Builtin.max2 (.int .u64 (if ((b.toNat:Int)) > (x.toNat:Int) then (b.toNat:Int) else (x.toNat:Int))) (l.map a.eval):Sem Value).run C.P w'=_
  rw [e2]
  exact h3
theorem min_w64 {x y:Operand} {ts:Array TypeId} {a1 b1:BitVec 64} (hp:SC.Is r (.w64 a1) (a.eval x)) (hq:SC.Is r (.w64 b1) (a.eval y)) (hk:k (.a (.c (.w64 (if b1<a1 then b1 else a1))))):RdOk C t h (.call ⟨.builtin .min,#[x,y],ts⟩) a w r k:=by
 have hp:a.eval x=.int .u64 (a1.toNat:Int):=hp
 have hq:a.eval y=.int .u64 (b1.toNat:Int):=hq
 refine ⟨_,_,hk,rfl,fun o w' ho _=>?_⟩
 simp only [execOp,ho,resolve]
 refine exec_v (v:=.int .u64 ((if b1<a1 then b1 else a1:BitVec 64).toNat:Int)) ?_
 simp only [List.map_toArray,List.map_cons,List.map_nil]
 rw [hp,hq]
 have e:(if (b1.toNat:Int)<(a1.toNat:Int) then (b1.toNat:Int) else (a1.toNat:Int))=((if b1<a1 then b1 else a1:BitVec 64).toNat:Int):=by
  by_cases hlt:b1<a1
  ·rw [if_pos hlt,if_pos (by have:=BitVec.lt_def.1 hlt; omega)]
  ·rw [if_neg hlt,if_neg (fun hc=>hlt (BitVec.lt_def.2 (by omega)))]
 rw [← e]
 rfl
theorem rd_builtin {b:Builtin} {args:Array Operand} {ts:Array TypeId} (hT:AllT C.P C.T) (ok:Ok C ⟨t,h⟩ r a w) (hk:stepR C (.call ⟨.builtin b,args,ts⟩) t h k):RdOk C t h (.call ⟨.builtin b,args,ts⟩) a w r k:=by
 cases b <;> try exact hk.elim
 case len =>
  have hk:(match args.toList,ts.toList with
   | [x],u::_=>td C u fun d=>match d.k,ev t x with
    | .str,.a (.c (.str l))=>k (.a (.c (.int .i64 (l.length:Int))))
    | .slice _,.a (.c (.sl _ _ _ n _))=>k (.a (.c (.int .i64 (n:Int))))
    | .slice _,.a (.c (.slc _ n _))=>k (.a (.c (.int .i64 (n:Int))))
    | .slice _,.a (.c (.sn _ _ _ _ n _))=>k (.a (.c (.int .i64 (n:Int))))
    | _,_=>False
   | _,_=>False):=hk
  split at hk <;> try exact hk.elim
  rename_i x u us h1 h2
  obtain ⟨d,hd,hk⟩:=td_spec hT hk
  have hkk:=hd.kind
  have hv:=ok.ev x
  have e1:args=#[x]:=by rw [← Array.toList_inj]; exact h1
  have e2:ts[0]?=some u:=by rw [← Array.getElem?_toList,h2]; rfl
  have fin:∀ {n:Nat},k (.a (.c (.int .i64 (n:Int))))→(∀ ty w',(Builtin.len_ ts ty #[a.eval x]).run C.P w'=.ok (.int .i64 (n:Int)) w')→RdOk C t h (.call ⟨.builtin .len,args,ts⟩) a w r k:=by
   intro n h1 h2
   refine ⟨_,_,h1,rfl,fun o w' ho _=>?_⟩
   subst e1
   simp only [execOp,ho,resolve]
   refine exec_v ?_
   simp only [List.map_toArray,List.map_cons,List.map_nil]
   exact h2 _ w'
  split at hk <;> try exact hk.elim
  ·rename_i l hkd hx
   rw [hkd] at hkk
   simp only [TK.Ok] at hkk
   simp only [hx] at hv
   have hv:a.eval x=.string ⟨l.toArray⟩:=hv
   refine fin hk (fun ty w'=>?_)
   simp [Builtin.len_,e2,hv,run_underlying hkk,goInt,pure]
   rfl
  ·rename_i i b' o n c hkd hx
   rw [hkd] at hkk
   simp only [TK.Ok] at hkk
   simp only [hx] at hv
   obtain ⟨B,f,_,hv⟩:=hv
   refine fin hk (fun ty w'=>?_)
   simp [Builtin.len_,e2,hv,run_underlying hkk,goInt,pure]
  ·rename_i A n c hkd hx
   rw [hkd] at hkk
   simp only [TK.Ok] at hkk
   simp only [hx] at hv
   have hv:a.eval x=.slice A n c:=hv
   refine fin hk (fun ty w'=>?_)
   simp [Builtin.len_,e2,hv,run_underlying hkk,goInt,pure]
  ·rename_i z i b' o n c hkd hx
   rw [hkd] at hkk
   simp only [TK.Ok] at hkk
   simp only [hx] at hv
   rcases hv with ⟨_,hv,rfl,_⟩|⟨_,B,f,_,hv⟩|⟨_,rfl,_,B,f,s,hv⟩
   ·refine fin hk (fun ty w'=>?_)
    simp [Builtin.len_,e2,hv,run_underlying hkk,goInt,pure]
   ·refine fin hk (fun ty w'=>?_)
    simp [Builtin.len_,e2,hv,run_underlying hkk,goInt,pure]
   ·refine fin hk (fun ty w'=>?_)
    simp [Builtin.len_,e2,hv,run_underlying hkk,goInt,pure]
 case min =>
  have hk:(match args.toList with
   | [x,y]=>asC (ev t x) fun a=>asC (ev t y) fun b=>match a,b with
    | .int .i64 a,.int .i64 b=>k (.a (.c (.int .i64 (if b<a then b else a))))
    | .w64 a,.w64 b=>k (.a (.c (.w64 (if b<a then b else a))))
    | _,_=>False
   | _=>False):=hk
  split at hk <;> try exact hk.elim
  rename_i x y h1
  obtain ⟨p,hk,hp,_⟩:=ev_c ok hk
  obtain ⟨q,hk,hq,_⟩:=ev_c ok hk
  have e1:args=#[x,y]:=by rw [← Array.toList_inj]; exact h1
  split at hk <;> try exact hk.elim
  ·have hp:a.eval x=_:=hp
   have hq:a.eval y=_:=hq
   refine ⟨_,_,hk,rfl,fun o w' ho _=>?_⟩
   subst e1
   simp only [execOp,ho,resolve]
   refine exec_v (v:=.int .i64 _) ?_
   simp only [List.map_toArray,List.map_cons,List.map_nil]
   rw [hp,hq]
   rfl
  ·have hk2:=hk
   clear hk
   subst e1
   exact min_w64 hp hq hk2
 case max =>
  have hk:(match args.toList with
   | x::rest=>asC (ev t x) fun
    | .int .i64 a=>maxI t rest a fun n=>k (.a (.c (.int .i64 n)))
    | .w64 a=>maxW t rest a fun n=>k (.a (.c (.w64 n)))
    | _=>False
   | _=>False):=hk
  split at hk <;> try exact hk.elim
  rename_i x rest h1
  obtain ⟨p,hk,hp,_⟩:=ev_c ok hk
  have e1:args=(x::rest).toArray:=by rw [← Array.toList_inj]; exact h1
  have e2:∀ (f:Operand→Value),(args.map f).toList=f x::rest.map f:=fun f=>by rw [e1]; simp
  split at hk <;> try exact hk.elim
  ·have hp:a.eval x=_:=hp
   obtain ⟨n,hk,hr⟩:=maxI_spec ok hk
   refine ⟨_,_,hk,rfl,fun o w' ho _=>?_⟩
   simp only [execOp,ho,resolve]
   refine exec_v (v:=.int .i64 _) ?_
   show (match (args.map a.eval).toList with|[]=>_|x::rest=>rest.foldlM Builtin.max2 x:Sem Value).run C.P w'=_
   rw [e2,hp]
   exact hr w'
  ·have hp:a.eval x=_:=hp
   obtain ⟨n,hk,hr⟩:=maxW_spec ok hk
   refine ⟨_,_,hk,rfl,fun o w' ho _=>?_⟩
   simp only [execOp,ho,resolve]
   refine exec_v ?_
   show (match (args.map a.eval).toList with|[]=>_|x::rest=>rest.foldlM Builtin.max2 x:Sem Value).run C.P w'=_
   rw [e2,hp]
   exact hr w'
theorem stepR_sound {op:Op} (hT:AllT C.P C.T) (ok:Ok C ⟨t,h⟩ r a w) (hk:stepR C op t h k):RdOk C t h op a w r k:=by
 cases op <;> try exact hk.elim
 case move=>exact rd_move ok hk
 case assign=>exact rd_assign ok hk
 case pick=>exact rd_pick ok hk
 case build=>exact rd_build hT ok hk
 case load=>exact rd_load hT ok hk
 case nilCheck=>exact rd_nilCheck ok hk
 case binOp=>exact rd_binOp hT ok hk
 case unOp=>exact rd_unOp ok hk
 case convert=>exact rd_convert hT ok hk
 case makeInterface=>exact rd_iface hT ok hk
 case makeFunc=>exact rd_func ok hk
 case slice=>exact rd_slice hT ok hk
 case fieldAddr=>exact rd_fieldAddr hT ok hk
 case field=>exact rd_field hT ok hk
 case indexAddr=>exact rd_indexAddr hT ok hk
 case index=>exact rd_index hT ok hk
 case lookup=>exact rd_lookup hT ok hk
 case extract=>exact rd_extract ok hk
 case call c =>
  obtain ⟨callee,args,ts⟩:=c
  cases callee <;> try exact hk.elim
  exact rd_builtin hT ok hk
end
end Sx
end
section
namespace Sx
open Go.RowKit

section
variable {C : Cx} {t : List SV} {h : List (List Seg)} {r : Rho} {a : Act} {w : World} {k : SV → List (List Seg) → Prop}
theorem HeapOk.rlen (ok:HeapOk C h r w):C.r0.length≤r.length:=by
 rcases Nat.eq_zero_or_pos C.r0.length with h|hp
 ·omega
 ·have:=ok.agree (C.r0.length-1) _ (List.getElem?_eq_getElem (by omega))
  rcases Nat.lt_or_ge (C.r0.length-1) r.length with h|h
  ·omega
  ·rw [List.getElem?_eq_none h] at this; cases this
theorem HeapOk.newG (ok:HeapOk C h r w) {l:List Seg} {o:Obj} (hA:At true (r++[(w.heap.size,0)]) (w.alloc o) w.heap.size 0 (flat l)) (hM:∀ m,l=[.obj m]→ObjAt (w.alloc o) w.heap.size m) (hP:∀ W ms,l≠[.past W ms]) :
  HeapOk C (h++[l]) (r++[(w.heap.size,0)]) (w.alloc o):=by
 have hx:Ext [] w (w.alloc o):=(Ext.refl [] w).alloc _
 have ok':=ok.ext0 hx
 have hlen:r.length=h.length:=ok.len
 have hr:∀ (i B f:Nat),(r++[(w.heap.size,0)])[i]?=some (B,f)→(i<h.length∧r[i]?=some (B,f))∨(i=h.length∧B=w.heap.size∧f=0):=by
  intro i B f e
  rcases Nat.lt_trichotomy i h.length with hi|hi|hi
  ·rw [List.getElem?_append_left (by omega)] at e; exact .inl ⟨hi,e⟩
  ·subst hi; rw [← hlen] at e; simp at e; exact .inr ⟨rfl,e.1.symm,e.2.symm⟩
  ·rw [List.getElem?_eq_none (by simp; omega)] at e; cases e
 have hh:∀ (i:Nat) (ch:List Seg),(h++[l])[i]?=some ch→(i<h.length∧h[i]?=some ch)∨(i=h.length∧ch=l):=by
  intro i ch e
  rcases Nat.lt_trichotomy i h.length with hi|hi|hi
  ·rw [List.getElem?_append_left hi] at e; exact .inl ⟨hi,e⟩
  ·subst hi; simp at e; exact .inr ⟨rfl,e.symm⟩
  ·rw [List.getElem?_eq_none (by simp; omega)] at e; cases e
 have hrl:C.r0.length≤r.length:=ok.rlen
 refine ⟨ok'.ext,ok.agree.trans (RLe.snoc _ _),ok.rol,by simp [hlen],fun i ch B f hi hr'=>?_,fun i B f hro hr'=>?_,fun i B f hro hr'=>?_,fun i B f hro hl hr'=>?_,fun i ch hro hl hi=>?_,fun i j B f f' ch ch' hne o1 o2 hi hj hri hrj=>?_,fun i m B f hro hi hr'=>?_,fun i w1 ms hi=>?_⟩
 ·rcases hr i B f hr' with ⟨h1,h2⟩|⟨h1,rfl,rfl⟩
  ·rcases hh i ch hi with ⟨_,h3⟩|⟨h3,_⟩
   ·exact (ok'.chunks i ch B f h3 h2).mono (RLe.snoc _ _)
   ·omega
  ·rcases hh i ch hi with ⟨h3,_⟩|⟨_,rfl⟩
   ·omega
   ·intro j x e'
    obtain ⟨v,e1,e2,e3⟩:=hA j x e'
    exact ⟨v,e1,e2,fun _=>e3 rfl⟩
 ·rcases hr i B f hr' with ⟨h1,h2⟩|⟨h1,rfl,rfl⟩
  ·exact ok'.lt i B f hro h2
  ·simp
 ·rcases hr i B f hr' with ⟨h1,h2⟩|⟨h1,rfl,rfl⟩
  ·exact ok.own i B f hro h2
  ·exact .inr ok.ext.size
 ·rcases hr i B f hr' with ⟨h1,h2⟩|⟨h1,_,_⟩
  ·exact ok.ros i B f hro hl h2
  ·have:=ok.rol
   omega
 ·rcases hh i ch hi with ⟨_,h3⟩|⟨h3,_⟩
  ·exact ok.dead i ch hro hl h3
  ·have:=ok.rol
   omega
 ·rcases hr i B f hri with ⟨h1,h2⟩|⟨h1,rfl,rfl⟩ <;> rcases hr j _ f' hrj with ⟨h3,h4⟩|⟨h3,h5,_⟩
  ·rcases hh i ch hi with ⟨_,h6⟩|⟨h6,_⟩
   ·rcases hh j ch' hj with ⟨_,h7⟩|⟨h7,_⟩
    ·exact ok.apart i j B f f' ch ch' hne o1 o2 h6 h7 h2 h4
    ·omega
   ·omega
  ·have:=ok.lt i B f o1 h2; omega
  ·have:=ok.lt j _ f' o2 h4; omega
  ·omega
 ·rcases hh i _ hi with ⟨h1,h2⟩|⟨_,rfl⟩
  ·rcases hr i B f hr' with ⟨_,h4⟩|⟨h3,_⟩
   ·exact ok'.maps i m B f hro h2 h4
   ·omega
  ·rcases hr i B f hr' with ⟨h3,_⟩|⟨_,rfl,rfl⟩
   ·omega
   ·exact hM m rfl
 ·rcases hh i _ hi with ⟨h1,h2⟩|⟨_,h2⟩
  ·obtain ⟨p1,p2,p3⟩:=ok'.past i w1 ms h2
   refine ⟨p1,p2,fun j B f ho hrj hB=>?_⟩
   rcases hr j B f hrj with ⟨_,h4⟩|⟨_,rfl,_⟩
   ·exact p3 j B f ho h4 hB
   ·have:=(ok.past i w1 ms h2).1.size
    omega
  ·exact absurd h2.symm (hP _ _)
theorem HeapOk.newF (ok:HeapOk C h r w) {l:List Seg} (hl1:hd1 l=true) {cs:Array Value} (hc:IsL r (flat l) cs.toList) (e:TypeId) (fz:Nat × Nat) (hfz:fz=(0,0)∨(marksOk=true∧cs.size≤fz.1)):HeapOk C (h++[l]) (r++[(w.heap.size,0)]) (w.alloc (.cells cs e fz)):=by
 refine ok.newG (fun j x e'=>?_) (fun m e=>by rw [e] at hl1; cases hl1) (fun W ms e=>by rw [e] at hl1; cases hl1)
 obtain ⟨v,e1,e2⟩:=hc.2 j x e'
 have hb:(w.alloc (.cells cs e fz)).heap[w.heap.size]?=some (.cells cs e fz):=heap_alloc_new w _
 have hj:j<cs.size:=by
  have e1':cs[j]?=some v:=by simpa using e1
  exact (Array.getElem?_eq_some_iff.1 e1').1
 refine ⟨v,?_,e2.mono (RLe.snoc _ _),fun _=>?_⟩
 ·simp only [World.cell?,hb,Nat.zero_add]
  simpa using e1
 ·intro c t lo hi e
  rw [hb] at e
  injection e with e
  injection e with e1 e2 e3
  subst e1
  rcases hfz with rfl|hfz
  ·injection e3 with e4 e5
   exact .inl (e4.symm.trans e5)
  ·rw [e3] at hfz
   exact .inr hfz
theorem HeapOk.new (ok:HeapOk C h r w) {l:List Seg} (hl1:hd1 l=true) {cs:Array Value} (hc:IsL r (flat l) cs.toList) (e:TypeId):HeapOk C (h++[l]) (r++[(w.heap.size,0)]) (w.alloc (.cells cs e)):=ok.newF hl1 hc e (0,0) (.inl rfl)
theorem Ext.setCells {m:List Nat} {w0:World} (B:Nat) (hB:B∈m∨w0.heap.size≤B):∀ (vs:List Value) (o:Nat) {w:World},Ext m w0 w→Ext m w0 (w.setCells B o vs)
 | [],_,_,h=>h
 | v::vs,o,_,h=>Ext.setCells B hB vs (o+1) (Ext.set_ h (p:=⟨B,o,none⟩) hB v)
theorem heap_setCells (B:Nat):∀ (vs:List Value) (o:Nat) (w:World),(w.setCells B o vs).heap.size=w.heap.size∧∀ k,k≠B→(w.setCells B o vs).heap[k]?=w.heap[k]?
 | [],_,_=>⟨rfl,fun _ _=>rfl⟩
 | v::vs,o,w=>by
  obtain ⟨h1,h2⟩:=heap_setCells B vs (o+1) (w.setCell ⟨B,o,none⟩ v)
  exact ⟨by rw [World.setCells,h1]; simp [World.setCell],fun k hk=>by rw [World.setCells,h2 k hk]; exact Below.heap_setCell _ _ _ _ hk⟩
theorem HeapOk.put (ok:HeapOk C h r w) {i B f:Nat} (hr:r[i]?=some (B,f)) {ch l' new:List Seg} {at_:Nat} (hi:h[i]?=some ch) (hne:ch≠[]) (hput:Put new ch l' at_) {vs:List Value} (hv:IsL r (flat new) vs) (hro:C.ro≤i) (hhd:hd1 l'=true) :
  HeapOk C (h.set i l') r (w.setCells B (f+at_) vs):=by
 obtain ⟨p1,p2,p3⟩:=hput
 obtain ⟨s1,s2⟩:=heap_setCells B vs (f+at_) w
 have hA:=ok.chunks i ch B f hi hr
 have hil:i<h.length:=by
  rcases Nat.lt_or_ge i h.length with h|h
  ·exact h
  ·rw [List.getElem?_eq_none h] at hi; cases hi
 have other:∀ (j:Nat) (c:List Seg) (B' f':Nat),j≠i→h[j]?=some c→r[j]?=some (B',f')→flat c=[]∨B'≠B:=by
  intro j c B' f' hji hj hrj
  by_cases hB:B'=B
  ·subst hB
   exact .inl (ok.sep hji hro hj hi hrj hr hne)
  ·exact .inr hB
 refine ⟨Ext.setCells B (ok.own i B f hro hr) vs _ ok.ext,ok.agree,ok.rol,by simp [ok.len],fun j c B' f' hj hrj=>?_,fun j B' f' ho hrj=>by rw [s1]; exact ok.lt j B' f' ho hrj,ok.own,ok.ros,fun j c ho hl hj=>?_,fun i' j B' f1 f2 c c' hij o1 o2 h1 h2 r1 r2=>?_,fun j m B' f' ho hj hrj=>?_,fun j w1 ms hj=>?_⟩
 ·by_cases hji:j=i
  ·subst hji
   rw [hr] at hrj
   injection hrj with e
   simp only [Prod.mk.injEq] at e
   obtain ⟨rfl,rfl⟩:=e
   rw [List.getElem?_set_self hil] at hj
   injection hj with hj
   subst hj
   have hsome:∀ q,q<vs.length→(w.cell? ⟨B,f+at_+q,none⟩).isSome=true:=fun q hq=>by
    have hq':at_+q<(flat ch).length:=by rw [hv.1] at p1; omega
    obtain ⟨u,e1,_⟩:=hA _ _ (List.getElem?_eq_getElem hq')
    rw [show f+at_+q=f+(at_+q) by omega,e1]; rfl
   intro q x e
   rw [p3] at e
   have hfz:(Nat.ble C.ro j=true→Clean w B)→Nat.ble C.ro j=true→Clean (w.setCells B (f+at_) vs) B:=fun hz hb=>(hz hb).setCells _ _
   have hql:q<(flat ch).length:=by
    by_cases hc:at_≤q∧q<at_+(flat new).length
    ·omega
    ·rw [if_neg hc] at e
     rcases Nat.lt_or_ge q (flat ch).length with h|h
     ·exact h
     ·rw [List.getElem?_eq_none h] at e; cases e
   obtain ⟨u,e1,e2,e3⟩:=hA q _ (List.getElem?_eq_getElem hql)
   by_cases hc:at_≤q∧q<at_+(flat new).length
   ·rw [if_pos hc] at e
    obtain ⟨v,ev,hi'⟩:=hv.2 _ x e
    have hqv:q-at_<vs.length:=by rw [← hv.1]; omega
    have:=World.cell?_setCells_in B vs (f+at_) w hsome (q-at_) hqv
    rw [show f+at_+(q-at_)=f+q by omega] at this
    rw [List.getElem?_eq_getElem hqv] at ev
    injection ev with ev
    exact ⟨v,by rw [this,ev],hi',hfz e3⟩
   ·rw [if_neg hc,List.getElem?_eq_getElem hql] at e
    injection e with e
    subst e
    refine ⟨u,?_,e2,hfz e3⟩
    rw [World.cell?_setCells_out B vs (f+at_) w ⟨B,f+q,none⟩ (fun _ _=>by
     show f+q<f+at_∨f+at_+vs.length≤f+q
     rw [← hv.1]; omega)]
    exact e1
  ·rw [List.getElem?_set_ne (Ne.symm hji)] at hj
   rcases other j c B' f' hji hj hrj with h0|hB
   ·intro q x e; rw [h0] at e; simp at e
   ·exact (ok.chunks j c B' f' hj hrj).block (s2 B' hB)
 ·have hji:j≠i:=fun e=>by subst e; omega
  rw [List.getElem?_set_ne (Ne.symm hji)] at hj
  exact ok.dead j c ho hl hj
 ·by_cases hi1:i'=i
  ·subst hi1
   have hji:j≠i':=Ne.symm hij
   rw [List.getElem?_set_ne hij] at h2
   rw [hr] at r1
   injection r1 with e
   simp only [Prod.mk.injEq] at e
   obtain ⟨rfl,rfl⟩:=e
   rcases ok.apart j i' _ f2 _ c' ch hji o2 o1 h2 hi r2 hr with h|h
   ·exact .inr h
   ·exact absurd h hne
  ·rw [List.getElem?_set_ne (Ne.symm hi1)] at h1
   by_cases hj1:j=i
   ·subst hj1
    rw [hr] at r2
    injection r2 with e
    simp only [Prod.mk.injEq] at e
    obtain ⟨rfl,rfl⟩:=e
    rcases ok.apart i' j _ f1 _ c ch hi1 o1 o2 h1 hi r1 hr with h|h
    ·exact .inl h
    ·exact absurd h hne
   ·rw [List.getElem?_set_ne (Ne.symm hj1)] at h2
    exact ok.apart i' j B' f1 f2 c c' hij o1 o2 h1 h2 r1 r2
 ·by_cases hji:j=i
  ·subst hji
   rw [List.getElem?_set_self hil] at hj
   injection hj with hj
   subst hj
   cases hhd
  ·rw [List.getElem?_set_ne (Ne.symm hji)] at hj
   refine (ok.maps j m B' f' ho hj hrj).block (s2 B' fun hB=>?_)
   subst hB
   rcases ok.apart j i _ f' f _ ch hji ho hro hj hi hrj hr with h|h
   ·cases h
   ·exact hne h
 ·by_cases hji:j=i
  ·subst hji
   rw [List.getElem?_set_self hil] at hj
   injection hj with hj
   subst hj
   cases hhd
  ·rw [List.getElem?_set_ne (Ne.symm hji)] at hj
   obtain ⟨p1,p2,p3⟩:=ok.past j w1 ms hj
   refine ⟨Ext.setCells B ?_ vs _ p1,p2,p3⟩
   rcases Nat.lt_or_ge B w1.heap.size with hlt|hge
   ·exact .inl (p3 i B f hro hr hlt)
   ·exact .inr hge
def blockOf:Value→Option Nat
 | .pointer (some a)=>some a.block
 | .slice (some a) _ _=>some a.block
 | .map (some b)=>some b
 | _=>none
def Tch (op:Op) (a:Act) (w w':World):Prop:=∃ m:List Nat,Ext m w w'∧∀ B∈m,∃ x,tgtOf op=some x∧blockOf (a.eval x)=some B
theorem Tch.none {op:Op} {a:Act} {w w':World} (e:Ext [] w w'):Tch op a w w':=⟨[],e,fun B hB=>by cases hB⟩
theorem tgt_st {op:Op} (h:isSt op=false):tgtOf op=Option.none:=by
 unfold tgtOf
 split
 ·cases h
 ·cases h
 ·cases h
 ·cases h
 ·cases h
 ·rfl
theorem Tch.quiet {op:Op} {a:Act} {w w':World} (h:Tch op a w w') (hs:isSt op=false):Ext [] w w':=by
 obtain ⟨m,e,hm⟩:=h
 have:m=[]:=List.eq_nil_iff_forall_not_mem.2 fun B hB=>by
  obtain ⟨x,h1,_⟩:=hm B hB
  rw [tgt_st hs] at h1
  cases h1
 rwa [this] at e
def ChOk (C:Cx) (h:List (List Seg)) (op:Op) (a:Act) (w:World) (r:Rho) (k:SV→List (List Seg)→Prop):Prop :=
 ∃ v x h' r' w',k x h'∧x.Is r' v∧RLe r r'∧HeapOk C h' r' w'∧Tch op a w w'∧Keeps h h'∧∀ o:Oper,o.op=op→(execOp a.eval o).run C.P w=.ok (.value v) w'∨((execOp a.eval o).run C.P w=.ok .skip w'∧v=undef)
theorem ptr_new (ok:HeapOk C h r w):SV.Is (r++[(w.heap.size,0)]) (.a (.c (.p h.length 0 0))) (.pointer (some ⟨w.heap.size,0,none⟩)) :=
 ⟨w.heap.size,0,by rw [← ok.len]; simp,by simp⟩
theorem sl_new (ok:HeapOk C h r w) (n c:Nat):SV.Is (r++[(w.heap.size,0)]) (.a (.c (.sl h.length 0 0 n c))) (.slice (some ⟨w.heap.size,0,none⟩) n c) :=
 ⟨w.heap.size,0,by rw [← ok.len]; simp,by simp⟩
theorem newVar_run {P:Program} (e:TypeId) (v:Value) (w:World):(newVar e v).run P w=.ok ⟨w.heap.size,0,none⟩ (w.alloc (.cells v.cells e)):=rfl
theorem newRow_run {P:Program} (e:TypeId) (cs:Array Value) (w:World):(newRow e cs).run P w=.ok ⟨w.heap.size,0,none⟩ (w.alloc (.cells cs e)):=rfl
theorem zero_is {P:Program} {u:TypeId} {d:TD} (hd:TdOk P u d) (r:Rho):IsL r (flat d.zero) d.zeroVal.cells.toList:=by
 by_cases hg:d.isAgg=true
 ·rw [zeroVal_agg hg]; exact zero_cells hd r
 ·have hs:=hd.sing
  simp only [hg,Bool.false_or] at hs
  split at hs
  ·rename_i x hz
   have hp:x.plain=true:=by
    have:=hd.plain
    rw [hz] at this
    simpa [flat] using this
   have hv:d.zeroVal=x.val:=by simp [TD.zeroVal,hg,hz,flat]
   rw [hv,hz,cells_one (SC.is_val r hp).one]
   exact ⟨rfl,fun j y e=>by cases j <;> simp [flat] at e; subst e; exact ⟨_,rfl,SC.is_val r hp⟩⟩
  ·cases hs
theorem ch_alloc {u:TypeId} (hT:AllT C.P C.T) (ok:Ok C ⟨t,h⟩ r a w) (hk:stepC C (.alloc u) t h k):ChOk C h (.alloc u) a w r k:=by
 unfold stepC at hk
 obtain ⟨d,hd,hk⟩:=td_spec hT hk
 split at hk <;> try exact hk.elim
 rename_i hz
 rw [addH_eq,Nat.zero_add] at hk
 refine ⟨_,_,_,_,_,hk,ptr_new ok.heap,RLe.snoc _ _,ok.heap.new hz (zero_is hd r) u,Tch.none ((Ext.refl _ _).alloc _),Keeps.snoc _ _,fun o ho=>.inl ?_⟩
 simp only [execOp,ho]
 refine exec_v ?_
 simp only [Instr.alloc,Sem.run_bind,hd.zeroValue,Result.andThen_ok,newVar_run]
 rfl
theorem ch_box {u:TypeId} {x:Operand} (hT:AllT C.P C.T) (ok:Ok C ⟨t,h⟩ r a w) (hk:stepC C (.box u x) t h k):ChOk C h (.box u x) a w r k:=by
 unfold stepC at hk
 obtain ⟨d,hd,hk⟩:=td_spec hT hk
 obtain ⟨l,hk,hl⟩:=toSegs_spec hk
 split at hk <;> try exact hk.elim
 rename_i hz
 rw [addH_eq,Nat.zero_add] at hk
 obtain ⟨vs,hvs,hv⟩:=hl r _ (ok.ev x)
 refine ⟨_,_,_,_,_,hk.2,ptr_new ok.heap,RLe.snoc _ _,ok.heap.new (l:=l) hz (cs:=(a.eval x).cells) (by rw [hvs]; simpa using hv) u,Tch.none ((Ext.refl _ _).alloc _),Keeps.snoc _ _,fun o ho=>.inl ?_⟩
 simp only [execOp,ho]
 refine exec_v ?_
 simp only [Instr.box,Sem.run_bind,newVar_run,Result.andThen_ok]
 rfl
theorem putS_ne {new:List Seg} {l:List Seg} {b o:Nat} {k:List Seg→Prop} (h:putS new l b o k):l≠[]:=by
 rintro rfl
 cases b <;> exact h
theorem putS_st {new:List Seg} {l:List Seg} {b o:Nat} {k:List Seg→Prop} (h:putS new l b o k):stirs l=true:=by
 cases l with
 | nil=>cases b <;> exact h.elim
 | cons a l=>cases a <;> first|rfl|(cases b <;> exact h.elim)
theorem ch_store {u:TypeId} {x y:Operand} (hT:AllT C.P C.T) (ok:Ok C ⟨t,h⟩ r a w) (hk:stepC C (.store u x y) t h k):ChOk C h (.store u x y) a w r k:=by
 unfold stepC at hk
 obtain ⟨d,hd,hk⟩:=td_spec hT hk
 obtain ⟨new,hk,hn⟩:=toSegs_spec hk
 obtain ⟨p,hk,hp,_⟩:=ev_c ok hk
 split at hk
 ·rename_i i b o _
  obtain ⟨vs,hvs,hv⟩:=hn r _ (ok.ev y)
  split at hk
  ·rename_i hsz
   obtain ⟨B,f,hr,hp⟩:=hp
   have hvl:vs=[]:=List.eq_nil_of_length_eq_zero (hv.1.symm.trans hk.1)
   subst hvl
   have hs0:(a.eval y).cells.size=0:=by rw [hvs]; rfl
   refine ⟨undef,.tup [],h,r,w,hk.2,⟨[],rfl,rfl,fun j x e=>by simp at e⟩,RLe.refl _,ok.heap,Tch.none (Ext.refl _ _),Keeps.refl _,fun o' ho=>.inr ⟨?_,rfl⟩⟩
   simp only [execOp,ho]
   simp only [Instr.storeAt,hp,Instr.sureAddr,storeVar,Sem.run_bind]
   have e0:(pure (⟨B,f+(b+o),none⟩:Addr):Sem Addr).run C.P w=.ok ⟨B,f+(b+o),none⟩ w:=rfl
   rw [e0]
   simp only [Result.andThen_ok,hd.sizeOf,hsz,hs0,ne_eq,not_true_eq_false,if_false]
   rw [hvs]
   rfl
  rename_i sz hszd
  split at hk <;> try exact hk.elim
  rename_i hro
  obtain ⟨B,f,hr,hp⟩:=hp
  have hne:=putS_ne hk
  have hst0:=putS_st hk
  obtain ⟨l',hk,hput,hhd⟩:=putS_spec hk
  rw [setH_eq] at hk
  have hi:h[i]?=some (getH h i):=by
   rw [getH_eq] at hne ⊢
   cases e:h[i]? with
   | none=>rw [e] at hne; exact absurd rfl hne
   | some c=>rfl
  have hA:=ok.heap.chunks i _ B f hi hr
  refine ⟨undef,_,_,_,_,hk.2,⟨[],rfl,rfl,fun j x e=>by simp at e⟩,RLe.refl _,ok.heap.put hr hi hne hput hv (ble_le hro) hhd,⟨[B],Ext.setCells B (.inl (by simp)) _ _ (Ext.refl _ _),fun B' hB'=>⟨x,rfl,by rw [hp]; simp at hB'; simp [blockOf,hB']⟩⟩,Keeps.set hi hst0 _,fun o' ho=>.inr ⟨?_,rfl⟩⟩
  have hsz:(a.eval y).cells.size=d.size:=by rw [hvs,hszd]; show vs.toArray.size=sz+1; rw [← hk.1,hv.1]; simp
  have hst:=run_storeCells_cells (P:=C.P) B (f+(b+o)) vs 0 w (fun j hj=>by
    have hq:b+o+j<(flat (getH h i)).length:=by have:=hput.1; rw [hv.1] at this; omega
    obtain ⟨u',e1,_⟩:=hA _ _ (List.getElem?_eq_getElem hq)
    rw [show f+(b+o)+0+j=f+(b+o+j) by omega,e1]; rfl) (fun j hj=>by
    have hq:b+o+j<(flat (getH h i)).length:=by have:=hput.1; rw [hv.1] at this; omega
    obtain ⟨u',e1,_,e3⟩:=hA _ _ (List.getElem?_eq_getElem hq)
    rw [show f+(b+o)+0+j=f+(b+o+j) by omega]; exact (e3 hro).fr e1) hv.one
  simp only [execOp,ho]
  simp only [Instr.storeAt,hp,Instr.sureAddr,storeVar,Sem.run_bind]
  have e0:(pure (⟨B,f+(b+o),none⟩:Addr):Sem Addr).run C.P w=.ok ⟨B,f+(b+o),none⟩ w:=rfl
  rw [e0]
  simp only [Result.andThen_ok,hd.sizeOf,hsz,ne_eq,not_true_eq_false,if_false]
  rw [hvs]
  simp only [Nat.add_zero] at hst
  rw [show vs.toArray.toList=vs from rfl,hst]
  rfl
 ·exact hk.elim
theorem Ext.setObj {m:List Nat} {w0:World} {B:Nat} (hB:B∈m∨w0.heap.size≤B) {w:World} (h:Ext m w0 w) (o:Obj):Ext m w0 { w with heap:=w.heap.setIfInBounds B o } :=
 ⟨h.os,h.tape,h.output,by simpa using h.size,fun k hk hn=>by
  have hkB:B≠k:=fun e=>by subst e; rcases hB with hB|hB; exact hn hB; omega
  show (w.heap.setIfInBounds B o)[k]?=_
  rw [Array.getElem?_setIfInBounds_ne hkB]
  exact h.block k hk hn⟩
theorem HeapOk.putObj' (ok:HeapOk C h r w) {i B f:Nat} (hr:r[i]?=some (B,f)) {m m':MapD} (hi:h[i]?=some [.obj m]) (hro:C.ro≤i) {o:Obj} (he:∀ w':World,w'.heap[B]?=some o→ObjAt w' B m') :
  HeapOk C (h.set i [.obj m']) r { w with heap:=w.heap.setIfInBounds B o }:=by
 have hlt:B<w.heap.size:=ok.lt i B f hro hr
 have hil:i<h.length:=by
  rcases Nat.lt_or_ge i h.length with h|h
  ·exact h
  ·rw [List.getElem?_eq_none h] at hi; cases hi
 have s2:∀ k,k≠B→(w.heap.setIfInBounds B o)[k]?=w.heap[k]?:=fun k hk=>by rw [Array.getElem?_setIfInBounds_ne (Ne.symm hk)]
 refine ⟨Ext.setObj (ok.own i B f hro hr) ok.ext _,ok.agree,ok.rol,by simp [ok.len],fun j c B' f' hj hrj=>?_,fun j B' f' ho hrj=>by simpa using ok.lt j B' f' ho hrj,ok.own,ok.ros,fun j c ho hl hj=>?_,fun i' j B' f1 f2 c c' hij o1 o2 h1 h2 r1 r2=>?_,fun j m2 B' f' ho hj hrj=>?_,fun j w1 ms hj=>?_⟩
 ·by_cases hji:j=i
  ·subst hji
   rw [List.getElem?_set_self hil] at hj
   injection hj with hj
   subst hj
   intro q x e
   cases e
  ·rw [List.getElem?_set_ne (Ne.symm hji)] at hj
   by_cases hB:B'=B
   ·subst hB
    have h0:=ok.sep hji hro hj hi hrj hr (by simp)
    intro q x e; rw [h0] at e; simp at e
   ·exact (ok.chunks j c B' f' hj hrj).block (s2 B' hB)
 ·have hji:j≠i:=fun e=>by subst e; omega
  rw [List.getElem?_set_ne (Ne.symm hji)] at hj
  exact ok.dead j c ho hl hj
 ·have back:∀ (j:Nat) (c:List Seg),(h.set i [.obj m'])[j]?=some c→∃ c0,h[j]?=some c0∧(c0=[]→c=[]):=fun j c e=>by
   by_cases hji:j=i
   ·subst hji
    exact ⟨_,hi,fun e=>by cases e⟩
   ·rw [List.getElem?_set_ne (Ne.symm hji)] at e
    exact ⟨c,e,id⟩
  obtain ⟨d1,e1,k1⟩:=back i' c h1
  obtain ⟨d2,e2,k2⟩:=back j c' h2
  rcases ok.apart i' j B' f1 f2 d1 d2 hij o1 o2 e1 e2 r1 r2 with h|h
  ·exact .inl (k1 h)
  ·exact .inr (k2 h)
 ·by_cases hji:j=i
  ·subst hji
   rw [List.getElem?_set_self hil] at hj
   injection hj with hj
   injection hj with hj
   injection hj with hj
   subst hj
   rw [hr] at hrj
   injection hrj with e
   simp only [Prod.mk.injEq] at e
   obtain ⟨rfl,rfl⟩:=e
   exact he _ (by simp [hlt])
  ·rw [List.getElem?_set_ne (Ne.symm hji)] at hj
   refine (ok.maps j m2 B' f' ho hj hrj).block (s2 B' fun hB=>?_)
   subst hB
   rcases ok.apart j i _ f' f _ _ hji ho hro hj hi hrj hr with h|h
   ·cases h
   ·cases h
 ·by_cases hji:j=i
  ·subst hji
   rw [List.getElem?_set_self hil] at hj
   injection hj with hj
   injection hj with hj
   cases hj
  ·rw [List.getElem?_set_ne (Ne.symm hji)] at hj
   obtain ⟨p1,p2,p3⟩:=ok.past j w1 ms hj
   refine ⟨Ext.setObj ?_ p1 _,p2,p3⟩
   rcases Nat.lt_or_ge B w1.heap.size with hlt|hge
   ·exact .inl (p3 i B f hro hr hlt)
   ·exact .inr hge
theorem HeapOk.putObj (ok:HeapOk C h r w) {i B f:Nat} (hr:r[i]?=some (B,f)) {m m':MapD} (hi:h[i]?=some [.obj m]) (hro:C.ro≤i) {es:Array MapEntry} {clock:Nat} (hm:m'.isM=true) (he:pairs es.toList=m'.ents) :
  HeapOk C (h.set i [.obj m']) r { w with heap:=w.heap.setIfInBounds B (.map es clock) } :=
 ok.putObj' hr hi hro fun w' e=>.ofMap hm ⟨es,clock,e,he⟩
theorem ents_empty (mk:MK):mk.empty.ents=[]:=by cases mk <;> rfl
theorem ch_makeMap {u:TypeId} {x:Option Operand} (hT:AllT C.P C.T) (ok:Ok C ⟨t,h⟩ r a w) (hk:stepC C (.makeMap u x) t h k):ChOk C h (.makeMap u x) a w r k:=by
 unfold stepC at hk
 obtain ⟨d,hd,hk⟩:=td_spec hT hk
 split at hk <;> try exact hk.elim
 rename_i mk hdk
 obtain ⟨hx,hk⟩:=hk
 rw [addH_eq,Nat.zero_add] at hk
 have hkd:=hd.kind
 rw [hdk] at hkd
 obtain ⟨kt,et,hu,hmk⟩:=hkd
 refine ⟨_,_,_,_,_,hk,(show SV.Is (r++[(w.heap.size,0)]) (.a (.c (.mh h.length))) (.map (some w.heap.size)) from ⟨w.heap.size,0,by rw [← ok.heap.len]; simp,rfl⟩),RLe.snoc _ _,ok.heap.newG (l:=[.obj mk.empty]) (o:=.map #[] 0) (fun j y e=>by cases e) (fun m e=>?_) (fun W ms e=>by cases e),Tch.none ((Ext.refl _ _).alloc _),Keeps.snoc _ _,fun o ho=>.inl ?_⟩
 ·injection e with e
  injection e with e
  subst e
  exact .ofMap (by cases mk <;> rfl) ⟨#[],0,heap_alloc_new w _,(ents_empty mk).symm⟩
 ·simp only [execOp,ho]
  refine exec_v ?_
  cases x with
  | none=>simp [Instr.makeMap,Result.andThen]
  | some x =>
   obtain ⟨p,hx,hp,_⟩:=ev_c ok hx
   split at hx <;> try exact hx.elim
   have hp:a.eval x=_:=hp
   simp [Instr.makeMap,run_underlying hu,asInt,asIntOf,Result.andThen,hp]
theorem ch_mapUpdate {u:TypeId} {x y z:Operand} (hT:AllT C.P C.T) (ok:Ok C ⟨t,h⟩ r a w) (hk:stepC C (.mapUpdate u x y z) t h k):ChOk C h (.mapUpdate u x y z) a w r k:=by
 unfold stepC at hk
 obtain ⟨d,hd,hk⟩:=td_spec hT hk
 split at hk <;> try exact hk.elim
 rename_i mk i hdk hx
 split at hk <;> try exact hk.elim
 rename_i m hro hm
 obtain ⟨key,hk,hkey,-⟩:=ev_c ok hk
 have hp:=ok.ev x
 simp only [hx] at hp
 obtain ⟨B,f,hr,hp⟩:=hp
 have hi:h[i]?=some [.obj m]:=by
  rw [getH_eq] at hm
  cases e:h[i]? with
  | none=>rw [e] at hm; cases hm
  | some c=>rw [e] at hm; exact congrArg some hm
 have hO:ObjAt w B m:=ok.heap.maps i m B f (ble_le hro) hi hr
 have hkd:=hd.kind
 rw [hdk] at hkd
 obtain ⟨kt,et,hu,hmk⟩:=hkd
 have hz:=ok.ev z
 have hmM:m.isM=true:=by
  cases m with
  | it l p=>cases mk <;> exact (show False from hk).elim
  | _=>rfl
 obtain ⟨es,clock,e1,e2⟩:=hO.map hmM
 have fin:∀ (m':MapD) (es':Array MapEntry) (clock':Nat),m'.isM=true→(setH h i [.obj m'] fun h=>k (.tup []) h)→pairs es'.toList=m'.ents→(Instr.mapUpdate u (a.eval x) (a.eval y) (a.eval z)).run C.P w=.ok () { w with heap:=w.heap.setIfInBounds B (.map es' clock') }→ChOk C h (.mapUpdate u x y z) a w r k:=by
  intro m' es' clock' hm' hk he hrun
  rw [setH_eq] at hk
  refine ⟨undef,.tup [],h.set i [.obj m'],r,{ w with heap:=w.heap.setIfInBounds B (.map es' clock') },hk,⟨[],rfl,rfl,fun j x e=>by simp at e⟩,RLe.refl _,ok.heap.putObj hr hi (ble_le hro) hm' he,⟨[B],Ext.setObj (.inl (by simp)) (Ext.refl _ _) _,fun B' hB'=>⟨x,rfl,by rw [hp]; simp at hB'; simp [blockOf,hB']⟩⟩,Keeps.set hi rfl _,fun o' ho=>.inr ⟨?_,rfl⟩⟩
  simp only [execOp,ho]
  rw [Sem.run_bind,hrun]
  rfl
 generalize ev t z=vz at hk hz
 cases mk
 case w64 =>
  cases m with
  | w64 l =>
   cases key with
   | w64 kx =>
    have hkey:a.eval y=(fun z:BitVec 64=>Value.int .u64 (z.toNat:Int)) kx:=hkey
    obtain ⟨v,rfl,hk⟩:∃ v,vz=.a (.c (.w64 v))∧setH h i [.obj (.w64 (putK kx v l))] fun h=>k (.tup []) h:=by
     cases vz with
     | a x=>cases x with
      | c x=>cases x with
       | w64 v=>exact ⟨v,rfl,hk⟩
       | _=>exact hk.elim
      | agg _=>exact hk.elim
     | _=>exact hk.elim
    have hz:a.eval z=(fun z:BitVec 64=>Value.int .u64 (z.toNat:Int)) v:=hz
    obtain ⟨es',clock',hrun,he⟩:=update_run (kv:=(fun z:BitVec 64=>Value.int .u64 (z.toNat:Int))) (vv:=(fun z:BitVec 64=>Value.int .u64 (z.toNat:Int))) (d:=.int .u64) (fun _=>rfl) kv64 kx v hu hmk.1 e1 (l:=l) e2
    exact fin _ es' clock' rfl hk he (by rw [hp,hkey,hz]; exact hrun)
   | _=>exact hk.elim
  | _=>exact hk.elim
 case w8b =>
  cases m with
  | w8b l =>
   cases key with
   | w8 kx =>
    have hkey:a.eval y=(fun z:BitVec 8=>Value.int .u8 (z.toNat:Int)) kx:=hkey
    obtain ⟨v,rfl,hk⟩:∃ v,vz=.a (.c (.bool v))∧setH h i [.obj (.w8b (putK kx v l))] fun h=>k (.tup []) h:=by
     cases vz with
     | a x=>cases x with
      | c x=>cases x with
       | bool v=>exact ⟨v,rfl,hk⟩
       | _=>exact hk.elim
      | agg _=>exact hk.elim
     | _=>exact hk.elim
    have hz:a.eval z=(fun z:Bool=>Value.bool z) v:=hz
    obtain ⟨es',clock',hrun,he⟩:=update_run (kv:=(fun z:BitVec 8=>Value.int .u8 (z.toNat:Int))) (vv:=(fun z:Bool=>Value.bool z)) (d:=.int .u8) (fun _=>rfl) kv8 kx v hu hmk.1 e1 (l:=l) e2
    exact fin _ es' clock' rfl hk he (by rw [hp,hkey,hz]; exact hrun)
   | _=>exact hk.elim
  | _=>exact hk.elim
 case strs =>
  cases m with
  | strs l =>
   cases key with
   | str kx =>
    have hkey:a.eval y=(fun z:List UInt8=>Value.string ⟨z.toArray⟩) kx:=hkey
    obtain ⟨rfl,hk⟩:vz=.a (.agg [])∧setH h i [.obj (.strs (putL' kx l))] fun h=>k (.tup []) h:=by
     cases vz with
     | a x=>cases x with
      | c x=>exact hk.elim
      | agg g=>cases g with
       | nil=>exact ⟨rfl,hk⟩
       | cons _ _=>exact hk.elim
     | _=>exact hk.elim
    obtain ⟨vs,hz,hv⟩:=hz
    have hvs:vs=[]:=List.eq_nil_of_length_eq_zero hv.1.symm
    subst hvs
    have hz:a.eval z=(fun _:Unit=>Value.agg #[]) ():=hz
    obtain ⟨es',clock',hrun,he⟩:=update_run (kv:=(fun z:List UInt8=>Value.string ⟨z.toArray⟩)) (vv:=(fun _:Unit=>Value.agg #[])) (d:=.string) (fun _=>trivial) kvs kx () hu hmk.1 e1 (l:=l.map fun x=>(x,())) (e2.trans (by unfold MapD.ents; rw [List.map_map]; rfl))
    exact fin _ es' clock' rfl hk (he.trans (by rw [← putL_eq,List.map_map]; rfl)) (by rw [hp,hkey,hz]; exact hrun)
   | _=>exact hk.elim
  | _=>exact hk.elim
theorem ch_range {u:TypeId} {x:Operand} (hT:AllT C.P C.T) (ok:Ok C ⟨t,h⟩ r a w) (hk:stepC C (.range u x) t h k):ChOk C h (.range u x) a w r k:=by
 unfold stepC at hk
 obtain ⟨d,hd,hk⟩:=td_spec hT hk
 have hkd:=hd.kind
 have hp:=ok.ev x
 split at hk <;> try exact hk.elim
 rename_i l hdk hx
 rw [hdk] at hkd
 rw [addH_eq,Nat.zero_add] at hk
 simp only [hx] at hp
 have hp:a.eval x=.string ⟨l.toArray⟩:=hp
 have hkd:C.P.underlying u=some .string:=hkd
 refine ⟨_,_,_,_,_,hk,(show SV.Is (r++[(w.heap.size,0)]) (.a (.c (.ih h.length))) (.pointer (some ⟨w.heap.size,0,none⟩)) from ⟨w.heap.size,0,by rw [← ok.heap.len]; simp,rfl⟩),RLe.snoc _ _,ok.heap.newG (l:=[.obj (.it l 0)]) (o:=.stringIter ⟨l.toArray⟩ 0) (fun j y e=>by cases e) (fun m e=>?_) (fun W ms e=>by cases e),Tch.none ((Ext.refl _ _).alloc _),Keeps.snoc _ _,fun o ho=>.inl ?_⟩
 ·injection e with e
  injection e with e
  subst e
  exact heap_alloc_new w _
 ·simp only [execOp,ho]
  refine exec_v ?_
  rw [hp]
  simp only [Instr.range,Sem.run_bind,run_underlying hkd,Result.andThen_ok]
  rfl
theorem ch_next {x:Operand} {s:Bool} (hT:AllT C.P C.T) (ok:Ok C ⟨t,h⟩ r a w) (hk:stepC C (.next x s) t h k):ChOk C h (.next x s) a w r k:=by
 cases s with
 | false=>exact (show False from hk).elim
 | true =>
 simp only [stepC] at hk
 have hp:=ok.ev x
 split at hk <;> try exact hk.elim
 rename_i i hx
 simp only [hx] at hp
 obtain ⟨B,f,hr,hp⟩:=hp
 split at hk <;> try exact hk.elim
 rename_i l pos hro hm
 have hi:h[i]?=some [.obj (.it l pos)]:=by
  rw [getH_eq] at hm
  cases e:h[i]? with
  | none=>rw [e] at hm; cases hm
  | some c=>rw [e] at hm; exact congrArg some hm
 have hO:w.heap[B]?=some (.stringIter ⟨l.toArray⟩ pos):=ok.heap.maps i _ B f (ble_le hro) hi hr
 have hlt:B<w.heap.size:=(Array.getElem?_eq_some_iff.1 hO).1
 have hsz:(⟨l.toArray⟩:ByteArray).size=l.length:=by simp [ByteArray.size]
 obtain ⟨h1,h2⟩:=hk
 by_cases hpos:pos<l.length
 ·have hk:=h1 hpos
  rw [setH_eq] at hk
  refine ⟨.tuple #[.bool true,.int .i64 (pos:Int),.int .i32 ((Utf8.decode ⟨l.toArray⟩ pos).1:Int)],_,h.set i [.obj (.it l (pos+(Utf8.decode ⟨l.toArray⟩ pos).2))],r,{ w with heap:=w.heap.setIfInBounds B (.stringIter ⟨l.toArray⟩ (pos+(Utf8.decode ⟨l.toArray⟩ pos).2)) },hk,⟨[.bool true,.int .i64 (pos:Int),.int .i32 ((Utf8.decode ⟨l.toArray⟩ pos).1:Int)],rfl,rfl,fun j y e=>?_⟩,RLe.refl _,ok.heap.putObj' hr hi (ble_le hro) (fun w' e=>e),⟨[B],Ext.setObj (.inl (by simp)) (Ext.refl _ _) _,fun B' hB'=>⟨x,rfl,by rw [hp]; simp at hB'; simp [blockOf,hB']⟩⟩,Keeps.set hi rfl _,fun o' ho=>.inl ?_⟩
  ·match j,e with
   | 0,e=>cases e; exact ⟨_,rfl,rfl⟩
   | 1,e=>cases e; exact ⟨_,rfl,rfl⟩
   | 2,e=>cases e; exact ⟨_,rfl,rfl⟩
  ·simp only [execOp,ho]
   refine exec_v ?_
   rw [hp]
   simp only [Instr.next,getObj,setObj,Sem.run_bind,Sem.run,hO,Result.andThen,hsz,hpos,if_true]
   simp [goInt]
 ·have hk:=h2 hpos
  refine ⟨.tuple #[.bool false],_,h,r,w,hk,⟨[.bool false],rfl,rfl,fun j y e=>?_⟩,RLe.refl _,ok.heap,Tch.none (Ext.refl _ _),Keeps.refl _,fun o' ho=>.inl ?_⟩
  ·match j,e with
   | 0,e=>cases e; exact ⟨_,rfl,rfl⟩
  ·simp only [execOp,ho]
   refine exec_v ?_
   rw [hp]
   simp [Instr.next,getObj,Sem.run,hO,hsz,hpos]
end
end Sx
end
section
namespace Sx
open Go.RowKit

section
variable {C : Cx} {t : List SV} {h : List (List Seg)} {r : Rho} {a : Act} {w : World} {k : SV → List (List Seg) → Prop}
theorem zero_rep {P:Program} {u:TypeId} {d:TD} (hd:TdOk P u d) (r:Rho) (h0:d.size≠0) (n:Nat) :
  IsL r ((List.range n).map fun j=>nthC (flat d.zero) (j % d.size)) ((Array.range n).map (d.zeroVal.cells[· % d.zeroVal.cells.size]!)).toList:=by
 have hz:=zero_is hd r
 have hs:d.zeroVal.cells.size=d.size:=by rw [← hd.len,hz.1]; simp
 refine ⟨by simp,fun j x e=>?_⟩
 have hj:j<n:=by
  rcases Nat.lt_or_ge j n with h|h
  ·exact h
  ·rw [List.getElem?_eq_none (by simpa using h)] at e; cases e
 simp [hj] at e
 have hm:j % d.size<d.size:=Nat.mod_lt _ (by omega)
 obtain ⟨v,e1,e2⟩:=hz.2 (j % d.size) ((flat d.zero)[j % d.size]'(by rw [hd.len]; exact hm)) (List.getElem?_eq_getElem _)
 refine ⟨v,?_,?_⟩
 ·simp only [Array.toList_map,Array.toList_range,List.getElem?_map,List.getElem?_range hj,Option.map_some,hs]
  congr 1
  rw [Array.getElem?_toList] at e1
  simp only [getElem!_def,e1]
 ·rw [nthC_eq,List.getElem?_eq_getElem (by rw [hd.len]; exact hm)] at e
  simp at e
  rw [← e]; exact e2
theorem rep_one (n:Nat) (z:SC):(List.range n).map (fun j=>nthC [z] (j % 1))=List.replicate n z:=by
 apply List.ext_getElem?
 intro j
 by_cases hj:j<n
 ·simp [hj,nthC,Nat.mod_one]
 ·simp [hj]
theorem row_nthC (l:List SC):flat [Seg.row l.length (nthC l)]=l:=by
 simp only [flat,List.append_nil]
 apply List.ext_getElem?
 intro j
 by_cases hj:j<l.length
 ·simp [hj,nthC_eq]
 ·simp [hj]
theorem ch_buildSlice {u:TypeId} {len:Nat} {parts:Array (Nat × Operand)} (hT:AllT C.P C.T) (ok:Ok C ⟨t,h⟩ r a w) (hk:stepC C (.buildSlice u len parts) t h k):ChOk C h (.buildSlice u len parts) a w r k:=by
 unfold stepC at hk
 obtain ⟨d,hd,hk⟩:=td_spec hT hk
 have hkk:=hd.kind
 split at hk <;> try exact hk.elim
 rename_i e hkd
 rw [hkd] at hkk
 simp only [TK.Ok] at hkk
 obtain ⟨de,hde,hk⟩:=td_spec hT hk
 have fin:∀ {l':List Seg} {cs':Array Value},de.size≠0→len*de.size≤16777216→k (.a (.c (.sl h.length 0 0 len len))) (h++[l'])→hd1 l'=true→IsL r (flat l') cs'.toList →
   Instr.fill (fun i=>some (i*de.size,de.size)) ((Array.range (len*de.size)).map (de.zeroVal.cells[· % de.zeroVal.cells.size]!)) (parts.toList.map fun p=>(p.1,a.eval p.2))=some cs'→ChOk C h (.buildSlice u len parts) a w r k:=by
  intro l' cs' hs hb h1 hz1 h2 h3
  refine ⟨_,_,_,_,_,h1,sl_new ok.heap len len,RLe.snoc _ _,ok.heap.new hz1 h2 e,Tch.none ((Ext.refl _ _).alloc _),Keeps.snoc _ _,fun o ho=>.inl ?_⟩
  simp only [execOp,ho]
  refine exec_v ?_
  simp only [Instr.buildSlice,Sem.run_bind,run_underlying hkk,Result.andThen_ok,hde.sizeOf]
  rw [if_neg (by omega)]
  by_cases h0:len*de.size=0
  ·rw [if_pos h0]
   have e2:((Array.range (len*de.size)).map fun x=>(#[]:Array Value)[x % (#[]:Array Value).size]!)=(Array.range (len*de.size)).map (de.zeroVal.cells[· % de.zeroVal.cells.size]!):=by
    rw [h0]; simp
   simp only [Sem.run_bind,Sem.run_pure,Result.andThen_ok,e2]
   rw [map_parts,h3]
   simp only [Sem.run_bind,newRow_run,Result.andThen_ok]
   rfl
  ·rw [if_neg h0]
   simp only [Sem.run_bind,Sem.run_pure,Result.andThen_ok,hde.zeroValue]
   rw [map_parts,h3]
   simp only [Sem.run_bind,newRow_run,Result.andThen_ok]
   rfl
 split at hk
 ·rename_i z hb hz
  have hs1:de.size=1:=by rw [← hde.len,hz]; rfl
  have hb:=Nat.le_of_ble_eq_true hb
  rw [reps_eq] at hk
  have hrep:=zero_rep hde r (by omega) (len*de.size)
  rw [hz,hs1,show flat [Seg.one z]=[z] from rfl,rep_one,Nat.mul_one] at hrep
  obtain ⟨l',cs',h1,h2,h3,h4⟩:=buildR_spec ok hk hrep
  rw [addH_eq,Nat.zero_add] at h1
  refine fin (by omega) hb h1 rfl ?_ (by rw [hs1]; simpa using h4)
  have hm:l'.length=len:=by rw [h3]; simp
  subst hm
  rw [row_nthC]; exact h2
 ·rename_i z hb _
  have hb:=Nat.le_of_ble_eq_true hb
  split at hk
  ·exact hk.elim
  ·rename_i m hm
   rw [frcN_eq] at hk
   have hrep:=zero_rep hde r (by omega) (len*de.size)
   obtain ⟨l',cs',h1,h2,h3,h4,h5⟩:=buildL_spec (pl:=fun i=>some (i*de.size,de.size)) ok (fun i F hF=>by
    rw [frcN_eq] at hF
    exact ⟨_,_,_,hF,by simp⟩) hk (cs:=((Array.range (len*de.size)).map (de.zeroVal.cells[· % de.zeroVal.cells.size]!))) (by simpa [flat] using hrep)
   rw [addH_eq,Nat.zero_add] at h1
   exact fin (by omega) hb h1 (h5 rfl) h2 h4
 ·exact hk.elim
theorem ch_makeSlice {u:TypeId} {l c:Operand} (hT:AllT C.P C.T) (ok:Ok C ⟨t,h⟩ r a w) (hk:stepC C (.makeSlice u l c) t h k):ChOk C h (.makeSlice u l c) a w r k:=by
 unfold stepC at hk
 obtain ⟨d,hd,hk⟩:=td_spec hT hk
 have hkk:=hd.kind
 split at hk <;> try exact hk.elim
 rename_i e hkd
 rw [hkd] at hkk
 simp only [TK.Ok] at hkk
 obtain ⟨de,hde,hk⟩:=td_spec hT hk
 obtain ⟨p,hk,hp,_⟩:=ev_c ok hk
 obtain ⟨x,hk,hx⟩:=idx_spec hk
 obtain ⟨kx,hx⟩:=hx _ _ hp
 obtain ⟨q,hk,hq,_⟩:=ev_c ok hk
 obtain ⟨y,hk,hy⟩:=idx_spec hk
 obtain ⟨ky,hy⟩:=hy _ _ hq
 obtain ⟨⟨b1,b2,b3,b4⟩,hk⟩:=hk
 simp only [frcN_eq] at hk
 obtain ⟨it,hit,_,hbytes,_⟩:=hde.inf
 have fin:∀ {l':List Seg},de.size≠0→k (.a (.c (.sl h.length 0 0 x.toNat y.toNat))) (h++[l'])→hd1 l'=true→IsL r (flat l') ((Array.range (y.toNat*de.size)).map (de.zeroVal.cells[· % de.zeroVal.cells.size]!)).toList→ChOk C h (.makeSlice u l c) a w r k:=by
  intro l' hs h1 hz1 h2
  refine ⟨_,_,_,_,_,h1,sl_new ok.heap x.toNat y.toNat,RLe.snoc _ _,ok.heap.new hz1 h2 e,Tch.none ((Ext.refl _ _).alloc _),Keeps.snoc _ _,fun o ho=>.inl ?_⟩
  simp only [execOp,ho]
  refine exec_v ?_
  have wx:IntKind.i64.wrap x=x:=wrap_i64 (by omega)
  have wy:IntKind.i64.wrap y=y:=wrap_i64 (by omega)
  have hbb:(de.bytes:Int)*y≤140737488355328:=by rw [Int.mul_comm]; exact b3
  simp only [Instr.makeSlice,Sem.run_bind,run_underlying hkk,Result.andThen_ok,hx,hy,asInt,run_asInt,typeInfo,run_program,hit,Sem.run_pure,wx,wy,hbytes]
  rw [if_neg (by
   simp only [Bool.or_eq_true,decide_eq_true_eq,not_or]
   have:((2:Int) ^ 48)=281474976710656:=by decide
   rw [this]
   refine ⟨⟨⟨by omega,by omega⟩,by omega⟩,by omega⟩)]
  have hroom:¬ (y.toNat*de.bytes > roomBytes):=by
   have e1:roomBytes=140737488355328:=by decide
   rw [e1]
   have:((y.toNat*de.bytes:Nat):Int)≤140737488355328:=by
    rw [Int.natCast_mul,Int.toNat_of_nonneg (by omega)]; exact b3
   omega
  have e0:(askRoom (y.toNat*de.bytes)).run C.P w=.ok () w:=by
   unfold askRoom
   rw [if_neg hroom]; rfl
  simp only [Sem.run_bind,e0,Result.andThen_ok,hde.sizeOf]
  by_cases h0:y.toNat*de.size=0
  ·rw [if_pos h0]
   have e2:((Array.range (y.toNat*de.size)).map fun x=>(#[]:Array Value)[x % (#[]:Array Value).size]!)=(Array.range (y.toNat*de.size)).map (de.zeroVal.cells[· % de.zeroVal.cells.size]!):=by
    rw [h0]; simp
   simp only [Sem.run_bind,Sem.run_pure,Result.andThen_ok,e2,newRow_run]
  ·rw [if_neg h0]
   simp only [Sem.run_bind,Sem.run_pure,Result.andThen_ok,hde.zeroValue,newRow_run]
 split at hk
 ·rename_i z hz
  have hs1:de.size=1:=by rw [← hde.len,hz]; rfl
  rw [addH_eq,Nat.zero_add] at hk
  refine fin (by omega) hk rfl ?_
  have hrep:=zero_rep hde r (by omega) (y.toNat*de.size)
  rw [hz,hs1,show flat [Seg.one z]=[z] from rfl,rep_one,Nat.mul_one] at hrep
  rw [hs1,Nat.mul_one]
  have:flat [Seg.row y.toNat fun _=>z]=List.replicate y.toNat z:=by
   simp only [flat,List.append_nil]
   apply List.ext_getElem?
   intro j
   by_cases hj:j<y.toNat
   ·simp [hj]
   ·simp [hj]
  rw [this]; exact hrep
 ·split at hk
  ·exact hk.elim
  ·rename_i m hm
   rw [addH_eq,Nat.zero_add] at hk
   exact fin (by omega) hk rfl (by simpa [flat] using zero_rep hde r (by omega) (y.toNat*de.size))
end
end Sx
end
section
namespace Sx
open Go.RowKit

section
variable {C : Cx} {t : List SV} {h : List (List Seg)} {r : Rho} {a : Act} {w : World}
theorem srcC_spec (ok:Ok C ⟨t,h⟩ r a w) {sz:Nat} {x:Operand} {K:Nat→(Nat→SC)→Prop} (hk:srcC C sz h (ev t x) K) :
  ∃ m g,K m g∧(Builtin.lenOf (a.eval x)).run C.P w=.ok m w∧∃ vs:List Value,IsL r ((List.range (m*sz)).map g) vs∧∀ n,n≤m→∀ w',(∀ (B o:Nat) v,w.cell? ⟨B,o,none⟩=some v→w'.cell? ⟨B,o,none⟩=some v)→(Builtin.firstCells sz n (a.eval x)).run C.P w'=.ok (vs.take (n*sz)).toArray w':=by
 have hv:=ok.ev x
 have fin:∀ {m:Nat} {g:Nat→SC} {B off:Nat} {c:Nat},K m g→a.eval x=.slice (some ⟨B,off,none⟩) m c→(∀ w',Ext [] w w'→True)→(∃ vs:List Value,IsL r ((List.range (m*sz)).map g) vs∧∀ (j:Nat) v,vs[j]?=some v→w.cell? ⟨B,off+j,none⟩=some v) →
   ∃ m g,K m g∧(Builtin.lenOf (a.eval x)).run C.P w=.ok m w∧∃ vs:List Value,IsL r ((List.range (m*sz)).map g) vs∧∀ n,n≤m→∀ w',(∀ (B o:Nat) v,w.cell? ⟨B,o,none⟩=some v→w'.cell? ⟨B,o,none⟩=some v)→(Builtin.firstCells sz n (a.eval x)).run C.P w'=.ok (vs.take (n*sz)).toArray w':=by
  rintro m g B off c hk e-⟨vs,h1,h2⟩
  refine ⟨m,g,hk,by rw [e]; rfl,vs,h1,fun n hn w' hw=>?_⟩
  rw [e]
  have hl:vs.length=m*sz:=by rw [← h1.1]; simp
  have hle:n*sz≤m*sz:=Nat.mul_le_mul_right _ hn
  have:=run_loadCells_list (P:=C.P) w' ⟨B,off,none⟩ (vs.take (n*sz)) (fun j v e'=>by
   rw [add_none]
   rw [List.getElem?_take] at e'
   split at e'
   ·exact hw _ _ _ (h2 j v e')
   ·cases e')
  rw [show (vs.take (n*sz)).length=n*sz by rw [List.length_take,hl]; omega] at this
  exact this
 unfold srcC at hk
 split at hk
 ·rename_i j b o m c e
  simp only [e] at hv
  obtain ⟨B,f,hr,hv⟩:=hv
  split at hk <;> try exact hk.elim
  rename_i N g tl hs
  obtain ⟨hN,hk⟩:=hk
  rw [scale_eq] at hN
  have hA:=(ok.heap.chunk hr).sub (d:=b+o) (l':=(List.range (m*sz)).map fun q=>g (q+o)) (fun q y e=>by
   have hq:q<m*sz:=by
    rcases Nat.lt_or_ge q (m*sz) with h|h
    ·exact h
    ·rw [List.getElem?_eq_none (by simpa using h)] at e; cases e
   simp [hq] at e
   rw [show b+o+q=b+(q+o) by omega,← segs?_spec hs,flat_row_lt _ _ _ (by omega),e])
  obtain ⟨vs,h1,h2⟩:=hA.vals
  exact fin hk hv (fun _ _=>trivial) ⟨vs,h1,h2⟩
 ·rename_i m c e
  simp only [e] at hv
  obtain ⟨rfl,hk⟩:=hk
  have hv:a.eval x=.slice none 0 c:=hv
  refine ⟨0,_,hk,by rw [hv]; rfl,[],⟨by simp,fun j y e=>by simp at e⟩,fun n hn w' _=>by rw [hv]; simp [Builtin.firstCells,pure]⟩
 ·rename_i ad m c e
  simp only [e] at hv
  obtain ⟨g,hr,hk⟩:=hk
  have hv:a.eval x=.slice (some ad) m c:=hv
  rcases hr with rfl|hr
  ·refine ⟨0,_,hk,by rw [hv]; rfl,[],⟨by simp,fun j y e=>by simp at e⟩,fun n hn w' _=>?_⟩
   obtain rfl:n=0:=by omega
   have:=run_loadCells_list (P:=C.P) w' ad [] (fun j v e=>by simp at e)
   rw [hv]
   simpa [Builtin.firstCells] using this
  have hsp:=hr.spot
  obtain ⟨vs,h1,h2⟩:=RawAt.vals (r:=r) hr
  rw [hsp] at hv
  exact fin hk hv (fun _ _=>trivial) ⟨vs,h1,fun j v e=>h2 w ok.heap.ext (fun i W ms e=>(ok.heap.past i W ms e).1) j v e⟩
 ·rename_i l e
  simp only [e] at hv
  have hv:a.eval x=.string ⟨l.toArray⟩:=hv
  split at hk <;> try exact hk.elim
  refine ⟨l.length,_,hk,by rw [hv]; rfl,l.map fun b=>.int .u8 (b.toNat:Int),⟨by simp,fun j y e=>?_⟩,fun n hn w' _=>?_⟩
  ·have hj:j<l.length:=by
    rcases Nat.lt_or_ge j l.length with h|h
    ·exact h
    ·rw [List.getElem?_eq_none (by simpa using h)] at e; cases e
   simp [hj] at e
   subst e
   refine ⟨_,by simp [hj]; rfl,?_⟩
   simp [SC.Is]
  ·rw [hv]
   simp only [Builtin.firstCells,str_extract,Nat.sub_zero,List.drop_zero,Nat.mul_one]
   simp [pure,List.map_take]
 ·rename_i z j b o m c e
  simp only [e] at hv
  obtain ⟨g',⟨_,hsn⟩,hk⟩:=hk
  rcases hv with ⟨_,hv,rfl,rfl⟩|⟨hz,B,f,hr,hv⟩|⟨hz,rfl,rfl,B,f,s,hv⟩
  ·refine ⟨0,_,hk,by rw [hv]; rfl,[],⟨by simp,fun j y e=>by simp at e⟩,fun n hn w' _=>by rw [hv]; simp [Builtin.firstCells,pure]⟩
  rotate_left
  ·refine ⟨0,_,hk,by rw [hv]; rfl,[],⟨by simp,fun j y e=>by simp at e⟩,fun n hn w' _=>?_⟩
   obtain rfl:n=0:=by omega
   have:=run_loadCells_list (P:=C.P) w' ⟨B,f,s⟩ [] (fun j v e=>by simp at e)
   rw [hv]
   simpa [Builtin.firstCells] using this
  obtain ⟨N,g,tl,hs,hN,hg'⟩:=hsn hz
  rw [scale_eq] at hN hg'
  have hA:=(ok.heap.chunk hr).sub (d:=b+o) (l':=(List.range (m*sz)).map g') (fun q y e=>by
   have hq:q<m*sz:=by
    rcases Nat.lt_or_ge q (m*sz) with h|h
    ·exact h
    ·rw [List.getElem?_eq_none (by simpa using h)] at e; cases e
   simp [hq] at e
   rw [show b+o+q=b+(q+o) by omega,← segs?_spec hs,flat_row_lt _ _ _ (by omega),← hg' q hq,e])
  obtain ⟨vs,h1,h2⟩:=hA.vals
  exact fin hk hv (fun _ _=>trivial) ⟨vs,h1,h2⟩
 ·exact hk.elim
theorem und_int {P:Program} {u:TypeId} {d:TD} (hd:TdOk P u d) (hi:isIntK d.k=false):∃ v,P.underlying u=some v∧∀ k,v≠.int k:=by
 have hk:=hd.kind
 cases e:d.k <;> rw [e] at hk hi <;> simp only [TK.Ok] at hk
 case int=>cases hi
 case struct =>
  unfold fieldsOf at hk
  split at hk
  ·exact ⟨_,by assumption,by simp⟩
  ·cases hk
 case ifc =>
  unfold isIfc at hk
  split at hk
  ·exact ⟨_,by assumption,by simp⟩
  ·cases hk
 case fn =>
  unfold isFn at hk
  split at hk
  ·exact ⟨_,by assumption,by simp⟩
  ·cases hk
 case map =>
  obtain ⟨k',e',hk,_⟩:=hk
  exact ⟨_,hk,by simp⟩
 all_goals exact ⟨_,hk,by simp⟩
section
variable {P : Program} {u u2 e : TypeId} {us : List TypeId} {v2 : TypeDesc} {de : TD}
theorem run_app_fit {ts:Array TypeId} (hts:ts.toList=u::u2::us) (hu:P.underlying u=some (.slice e)) (hu2:P.underlying u2=some v2) (hi2:∀ k,v2≠.int k) (hde:TdOk P e de) {base:Option Addr} {n c m:Nat} {xv:Value} {w w':World} {vs:List Value} (ty:TypeId) (hl:(Builtin.lenOf xv).run P w=.ok m w) (hx:(Builtin.firstCells de.size m xv).run P w=.ok vs.toArray w) (hfit:n+m≤c)
  (hst:(match base with|some a=>storeCells (a.add (n*de.size)) vs|none=>pure ():Sem Unit).run P w=.ok () w') :
  (Builtin.append_ ts ty #[.slice base n c,xv]).run P w=.ok (.slice base (n+m) c) w':=by
 have h0:ts[0]?=some u:=by rw [← Array.getElem?_toList,hts]; rfl
 have h1:ts[1]?=some u2:=by rw [← Array.getElem?_toList,hts]; rfl
 have e0:(#[Value.slice base n c,xv]:Array Value)[0]?=some (.slice base n c):=rfl
 have e1:(#[Value.slice base n c,xv]:Array Value)[1]?=some xv:=rfl
 cases v2 <;> try (rename_i k; exact absurd rfl (hi2 k))
 all_goals
  simp only [Builtin.append_,h0,h1,e0,e1,Sem.run_bind,run_underlying hu,Result.andThen_ok,hde.sizeOf,run_underlying hu2,Sem.run_pure,Bool.false_eq_true,if_false,hl,hfit,if_true,Bool.not_false,hx]
  cases base with
  | none =>
   simp only [Sem.run_pure] at hst
   simp only [Sem.run_pure]
   injection hst with _ hst
   rw [hst]
  | some a =>
   simp only at hst
   simp only [Sem.run_bind,hst,Result.andThen_ok,Sem.run_pure]
theorem run_app_grow {ts:Array TypeId} (hts:ts.toList=u::u2::us) (hu:P.underlying u=some (.slice e)) (hu2:P.underlying u2=some v2) (hi2:∀ k,v2≠.int k) (hde:TdOk P e de) {base:Option Addr} {n c m:Nat} {xv:Value} {w:World} {vs os:List Value} (ty:TypeId) (hl:(Builtin.lenOf xv).run P w=.ok m w)
  (hx:(Builtin.firstCells de.size m xv).run P w.drew=.ok vs.toArray w.drew) (hg:¬ n+m≤c) (hb0:de.bytes≠0) (hb:(n+m)*de.bytes≤140737488355328) (ho:(Builtin.firstCells de.size n (.slice base n c)).run P w.drew=.ok os.toArray w.drew) :
  ∃ c',n+m≤c'∧(Builtin.append_ ts ty #[.slice base n c,xv]).run P w=.ok (.slice (some ⟨w.heap.size,0,none⟩) (n+m) c') (w.drew.alloc (.cells (os.toArray++vs.toArray++Builtin.zeroCells de.zeroVal.cells (c'-(n+m))) e)):=by
 have h0:ts[0]?=some u:=by rw [← Array.getElem?_toList,hts]; rfl
 have h1:ts[1]?=some u2:=by rw [← Array.getElem?_toList,hts]; rfl
 have e0:(#[Value.slice base n c,xv]:Array Value)[0]?=some (.slice base n c):=rfl
 have e1:(#[Value.slice base n c,xv]:Array Value)[1]?=some xv:=rfl
 obtain ⟨it,hit,_,hby,_⟩:=hde.inf
 have hti:(typeInfo e).run P w=.ok it w:=by simp [typeInfo,hit]
 have hfit:=growslice_fits (need:=n+m) (old:=c) (bytes:=de.bytes) (by omega) hb
 have hroom:∀ (k:Nat) (w:World),(askRoom k).run P w=.ok () w:=by
  intro k w
  unfold askRoom
  split <;> rfl
 have hti2:(typeInfo e).run P w.drew=.ok it w.drew:=by simp [typeInfo,hit]
 refine ⟨Question.cut (.appendCap (n+m) c e) (w.tape w.drawn (.appendCap (n+m) c e)),Nat.le_add_right _ _,?_⟩
 have hch:(choose (.appendCap (n+m) c e)).run P w=.ok (Question.cut (.appendCap (n+m) c e) (w.tape w.drawn (.appendCap (n+m) c e))) w.drew:=by
  simp [choose,Sem.run,Question.forced]
 cases v2 <;> try (rename_i k; exact absurd rfl (hi2 k))
 all_goals
  simp only [Builtin.append_,h0,h1,e0,e1,Sem.run_bind,run_underlying hu,Result.andThen_ok,hde.sizeOf,run_underlying hu2,Sem.run_pure,Bool.false_eq_true,if_false,hl,hg,Bool.not_false,if_true,hti,hby,hb0,or_self,and_false]
  rw [if_neg (by
   have:(2:Nat) ^ 48=281474976710656:=by decide
   rw [this]
   omega)]
  simp only [Sem.run_bind,hch,Result.andThen_ok,hti2,hroom,ho,hx,hde.zeroValue,newRow_run,Sem.run_pure]
  rfl
end
theorem HeapOk.drew (ok:HeapOk C h r w):HeapOk C h r w.drew:=ok.ext0 ((Ext.refl _ _).drew)
theorem map_eval2 {s x:Operand} {args:Array Operand} (h:args.toList=[s,x]) (f:Operand→Value):args.map f=#[f s,f x]:=by
 have:args=#[s,x]:=by rw [← Array.toList_inj]; exact h
 subst this
 simp
theorem newF_is {m N:Nat} {g:Nat→SC} {vs zs:List Value} (hv:IsL r ((List.range m).map g) vs) (hN:N=m+zs.length) (hz:∀ v∈zs,v.oneCell'=true):IsL r (flat [Seg.row N (newF m g)]) (vs++zs):=by
 have hl:vs.length=m:=by rw [← hv.1]; simp
 refine ⟨by simp [flat,hl,hN],fun j y e=>?_⟩
 have hj:j<N:=by
  rcases Nat.lt_or_ge j N with h|h
  ·exact h
  ·rw [List.getElem?_eq_none (by simpa [flat] using h)] at e; cases e
 rw [flat_row_lt _ _ _ hj] at e
 injection e with e
 subst e
 by_cases hm:j<m
 ·obtain ⟨v,e1,e2⟩:=hv.2 j (g j) (by simp [hm])
  exact ⟨v,by rw [List.getElem?_append_left (by omega)]; exact e1,by simp only [newF,if_pos hm]; exact e2⟩
 ·have hz':j-m<zs.length:=by omega
  refine ⟨zs[j-m],by rw [List.getElem?_append_right (by omega),hl]; exact List.getElem?_eq_getElem hz',?_⟩
  simp only [newF,if_neg hm]
  exact hz _ (List.getElem_mem _)
theorem zeroCells_one {P:Program} {u:TypeId} {d:TD} (hd:TdOk P u d) (n:Nat):(Builtin.zeroCells d.zeroVal.cells n).toList.length=n*d.size∧∀ v∈(Builtin.zeroCells d.zeroVal.cells n).toList,v.oneCell'=true:=by
 have hz:=zero_is hd []
 have hs:d.zeroVal.cells.size=d.size:=by rw [← hd.len,hz.1]; simp
 refine ⟨by simp [Builtin.zeroCells,hs],fun v hv=>?_⟩
 simp only [Builtin.zeroCells,Array.toList_map,Array.toList_range,List.mem_map,List.mem_range] at hv
 obtain ⟨i,hi,rfl⟩:=hv
 have h0:0<d.zeroVal.cells.size:=by
  rcases Nat.eq_zero_or_pos d.zeroVal.cells.size with h|h
  ·rw [h] at hi; simp at hi
  ·exact h
 have hm:=Nat.mod_lt i h0
 rw [getElem!_pos d.zeroVal.cells (i % d.zeroVal.cells.size) hm]
 exact hz.one _ (by rw [← Array.getElem_toList]; exact List.getElem_mem _)
theorem ch_append {args:Array Operand} {ts:Array TypeId} {k:SV→List (List Seg)→Prop} (hT:AllT C.P C.T) (ok:Ok C ⟨t,h⟩ r a w) (hk:appS C t h args.toList ts.toList k):ChOk C h (.call ⟨.builtin .append,args,ts⟩) a w r k:=by
 unfold appS at hk
 split at hk <;> try exact hk.elim
 rename_i s x u u2 us hargs hts
 obtain ⟨d,hd,hk⟩:=td_spec hT hk
 have hkk:=hd.kind
 split at hk <;> try exact hk.elim
 rename_i e hkd
 rw [hkd] at hkk
 simp only [TK.Ok] at hkk
 obtain ⟨de,hde,hk⟩:=td_spec hT hk
 obtain ⟨d2,hd2,hk⟩:=td_spec hT hk
 split at hk <;> try exact hk.elim
 rename_i sz by_ hi2 hsz hby
 obtain ⟨v2,hu2,hv2⟩:=und_int hd2 hi2
 have hsz:de.size=sz+1:=hsz
 have hby:de.bytes=by_+1:=hby
 rw [← hsz] at hk
 obtain ⟨m,g,hk,hl,vs,hvs,hfc⟩:=srcC_spec ok hk
 have hvl:vs.length=m*de.size:=by rw [← hvs.1]; simp
 have hfc':∀ w',(∀ (B o:Nat) v,w.cell? ⟨B,o,none⟩=some v→w'.cell? ⟨B,o,none⟩=some v)→(Builtin.firstCells de.size m (a.eval x)).run C.P w'=.ok vs.toArray w':=fun w' hw=>by
  have:=hfc m (Nat.le_refl _) w' hw
  rwa [List.take_of_length_le (by omega)] at this
 have hv:=ok.ev s
 have run:∀ (o:Oper) {v w'},(∀ ty,(Builtin.append_ ts ty #[a.eval s,a.eval x]).run C.P w=.ok v w')→o.op=.call ⟨.builtin .append,args,ts⟩→(execOp a.eval o).run C.P w=.ok (.value v) w':=by
  intro o v w' hr ho
  simp only [execOp,ho,resolve]
  refine exec_v ?_
  rw [map_eval2 hargs]
  exact hr _
 have hb0:de.bytes≠0:=by omega
 split at hk <;> try exact hk.elim
 ·rename_i n c e'
  simp only [e'] at hv
  obtain ⟨⟨rfl,rfl⟩,hb,hk0,hk1⟩:=hk
  have hv:a.eval s=.slice none 0 0:=hv
  rcases Nat.eq_zero_or_pos m with hm|hm
  ·subst hm
   refine ⟨_,_,_,_,_,hk0 rfl,rfl,RLe.refl _,ok.heap,Tch.none (Ext.refl _ _),Keeps.refl _,fun o ho=>.inl (run o (fun ty=>?_) ho)⟩
   rw [hv]
   exact run_app_fit hts hkk hu2 hv2 hde ty hl (hfc' w (fun _ _ _ h=>h)) (by omega) rfl
  ·have hgr:∀ ty:TypeId,∃ c',0+m≤c'∧_:=fun ty=>run_app_grow (base:=none) (n:=0) (c:=0) (xv:=a.eval x) (w:=w) (os:=[]) hts hkk hu2 hv2 hde ty hl (hfc' w.drew (fun _ _ _ h=>h)) (by omega) hb0 (by rw [hby]; simpa using hb) (by simp [Builtin.firstCells,pure])
   obtain ⟨c',hc',_⟩:=hgr 0
   have same:∀ ty:TypeId,(Builtin.append_ ts ty #[.slice none 0 0,a.eval x]).run C.P w=(Builtin.append_ ts 0 #[.slice none 0 0,a.eval x]).run C.P w:=fun _=>rfl
   obtain ⟨c',hc',hrun⟩:=hgr 0
   have hk1:=hk1 hm c' (by omega)
   rw [addH_eq,Nat.zero_add,scale_eq,scale_eq] at hk1
   obtain ⟨z1,z2⟩:=zeroCells_one hde (c'-(0+m))
   have hnew:=ok.heap.drew.new (l:=[.row (c'*de.size) (newF (m*de.size) g)]) (cs:=#[]++vs.toArray++Builtin.zeroCells de.zeroVal.cells (c'-(0+m))) rfl (by
    have:=newF_is (N:=c'*de.size) hvs (by rw [z1,← Nat.add_mul]; congr 1; omega) z2
    simpa using this) e
   refine ⟨_,_,_,_,_,hk1,⟨w.heap.size,0,by show (r++[(w.heap.size,0)])[h.length]?=_; rw [← show r.length=h.length from ok.heap.len]; simp,rfl⟩,RLe.snoc _ _,hnew,Tch.none (((Ext.refl _ _).drew).alloc _),Keeps.snoc _ _,fun o ho=>.inl (run o (fun ty=>?_) ho)⟩
   rw [hv,same,hrun]
   simp
 ·rename_i i o n c e'
  simp only [e'] at hv
  obtain ⟨B,f,hr,hv⟩:=hv
  split at hk <;> try exact hk.elim
  rotate_left
  ·rename_i N ff zz hro hch
   have hroi:=ble_le hro
   obtain ⟨⟨hnc,hN,hb⟩,hk1,hk2⟩:=hk
   rw [scale_eq] at hN
   have hil:i<h.length:=by
    rw [← ok.heap.len]
    rcases Nat.lt_or_ge i r.length with h|h
    ·exact h
    ·rw [List.getElem?_eq_none h] at hr; cases hr
   have hi:h[i]?=some [.row N ff,.row 0 zz]:=by
    have:=getH_eq h i
    rw [hch,List.getElem?_eq_getElem hil] at this
    rw [List.getElem?_eq_getElem hil]
    simp at this
    rw [← this]
   have hA:At (Nat.ble C.ro i) r w B f (flat [.row N ff]):=by
    have:=ok.heap.chunks i _ B f hi hr
    rwa [show flat [.row N ff,.row 0 zz]=flat [.row N ff] by simp [flat]] at this
   have hcell:∀ q,q<N→∃ v,w.cell? ⟨B,f+q,none⟩=some v∧(ff q).Is r v∧w.frozen? ⟨B,f+q,none⟩=false:=fun q hq=>by
    obtain ⟨v,e1,e2,e3⟩:=hA q (ff q) (by rw [flat_row_lt _ _ _ hq])
    exact ⟨v,e1,e2,(e3 hro).fr e1⟩
   have hsub:At (Nat.ble C.ro i) r w B (f+(0+o)) ((List.range (n*de.size)).map fun q=>ff (q+o)):=hA.sub (d:=0+o) (fun q y e=>by
    have hq:q<n*de.size:=by
     rcases Nat.lt_or_ge q (n*de.size) with h|h
     ·exact h
     ·rw [List.getElem?_eq_none (by simpa using h)] at e; cases e
    simp [hq] at e
    have:n*de.size≤c*de.size:=Nat.mul_le_mul_right _ hnc
    rw [show 0+o+q=q+o by omega,flat_row_lt _ _ _ (by omega),e])
   obtain ⟨os,hos,hoc⟩:=hsub.vals
   have hol:os.length=n*de.size:=by rw [← hos.1]; simp
   by_cases hfit:n+m≤c
   ·have hk:=hk1 hfit
    rw [setH_eq,scale_eq,scale_eq] at hk
    have hmul:(n+m)*de.size≤c*de.size:=Nat.mul_le_mul_right _ hfit
    rw [Nat.add_mul] at hmul
    have hst:=run_storeCells_cells (P:=C.P) B (f+(0+o)+n*de.size) vs 0 w (fun j hj=>by
      obtain ⟨v,e1,_⟩:=hcell (o+n*de.size+j) (by omega)
      rw [show f+(0+o)+n*de.size+0+j=f+(o+n*de.size+j) by omega,e1]; rfl) (fun j hj=>by
      obtain ⟨v,_,_,e3⟩:=hcell (o+n*de.size+j) (by omega)
      rw [show f+(0+o)+n*de.size+0+j=f+(o+n*de.size+j) by omega]; exact e3) hvs.one
    rw [Nat.add_zero] at hst
    have hput:=ok.heap.put (new:=[.row (m*de.size) g]) (l':=[.row N (updN ff (o+n*de.size) (m*de.size) g),.row 0 zz]) (at_:=o+n*de.size) hr hi (by simp) (Put.in_row (by simp [flat]; omega) (fun j h1 h2=>by
      simp [flat] at h2
      have:j-(o+n*de.size)<m*de.size:=by omega
      simp [flat,updN,this,h1,h2]) (fun j hj hc=>by
      simp [flat] at hc
      have:¬ (o+n*de.size≤j∧j<o+n*de.size+m*de.size):=by omega
      simp [updN,this])) (vs:=vs) (by simpa [flat] using hvs) hroi rfl
    rw [show f+(o+n*de.size)=f+(0+o)+n*de.size by omega] at hput
    refine ⟨.slice (some ⟨B,f+(0+o),none⟩) (n+m) c,_,_,_,_,hk,⟨B,f,hr,rfl⟩,RLe.refl _,hput,⟨[B],Ext.setCells B (.inl (by simp)) _ _ (Ext.refl _ _),fun B' hB'=>⟨s,by simp [tgtOf,hargs],by rw [hv]; simp at hB'; simp [blockOf,hB']⟩⟩,Keeps.set hi rfl _,fun o' ho=>.inl (run o' (fun ty=>?_) ho)⟩
    rw [hv]
    have:=run_app_fit (base:=some ⟨B,f+(0+o),none⟩) hts hkk hu2 hv2 hde ty hl (hfc' w (fun _ _ _ h=>h)) hfit (w':=w.setCells B (f+(0+o)+n*de.size) vs) (by
     simp only [add_none]
     exact hst)
    exact this
   ·have hgr:=fun ty=>run_app_grow (base:=some ⟨B,f+(0+o),none⟩) (n:=n) (c:=c) (xv:=a.eval x) (w:=w) (os:=os) hts hkk hu2 hv2 hde ty hl (hfc' w.drew (fun _ _ _ h=>h)) hfit hb0 (by rw [hby]; exact hb) (by
     have:=run_loadCells_list (P:=C.P) w.drew ⟨B,f+(0+o),none⟩ os (fun j v e=>by rw [add_none]; exact hoc j v e)
     rw [hol] at this
     exact this)
    have same:∀ ty:TypeId,(Builtin.append_ ts ty #[.slice (some ⟨B,f+(0+o),none⟩) n c,a.eval x]).run C.P w=(Builtin.append_ ts 0 #[.slice (some ⟨B,f+(0+o),none⟩) n c,a.eval x]).run C.P w:=fun _=>rfl
    obtain ⟨c',hc',hrun⟩:=hgr 0
    have hk:=hk2 c' hc'
    rw [addH_eq,Nat.zero_add,scale_eq,scale_eq,scale_eq] at hk
    obtain ⟨z1,z2⟩:=zeroCells_one hde (c'-(n+m))
    have happ:IsL r (flat [Seg.row (c'*de.size) (appF ff o (n*de.size) (m*de.size) g)]) (os++vs++(Builtin.zeroCells de.zeroVal.cells (c'-(n+m))).toList):=by
     have hcc:(n+m)*de.size+(c'-(n+m))*de.size=c'*de.size:=by rw [← Nat.add_mul]; congr 1; omega
     rw [Nat.add_mul] at hcc
     refine ⟨by simp [flat,hol,hvl,z1]; omega,fun j y e=>?_⟩
     have hj:j<c'*de.size:=by
      rcases Nat.lt_or_ge j (c'*de.size) with h|h
      ·exact h
      ·rw [List.getElem?_eq_none (by simpa [flat] using h)] at e; cases e
     rw [flat_row_lt _ _ _ hj] at e
     injection e with e
     subst e
     by_cases h5:j<n*de.size
     ·obtain ⟨v,e1,e2⟩:=hos.2 j (ff (j+o)) (by simp [h5])
      exact ⟨v,by rw [List.append_assoc,List.getElem?_append_left (by omega)]; exact e1,by simp only [appF,if_pos h5]; exact e2⟩
     ·by_cases h6:j<n*de.size+m*de.size
      ·obtain ⟨v,e1,e2⟩:=hvs.2 (j-n*de.size) (g (j-n*de.size)) (by rw [List.getElem?_map,List.getElem?_range (by omega)]; rfl)
       exact ⟨v,by rw [List.append_assoc,List.getElem?_append_right (by omega),List.getElem?_append_left (by omega),hol]; exact e1,by simp only [appF,if_neg h5,if_pos h6]; exact e2⟩
      ·have hz':j-(n*de.size+m*de.size)<(Builtin.zeroCells de.zeroVal.cells (c'-(n+m))).toList.length:=by rw [z1]; omega
       refine ⟨(Builtin.zeroCells de.zeroVal.cells (c'-(n+m))).toList[j-(n*de.size+m*de.size)],?_,?_⟩
       ·rw [List.getElem?_append_right (by simp; omega)]
        rw [show j-(os++vs).length=j-(n*de.size+m*de.size) by simp [hol,hvl]]
        exact List.getElem?_eq_getElem hz'
       ·simp only [appF,if_neg h5,if_neg h6]
        exact z2 _ (List.getElem_mem _)
    have hnew:=ok.heap.drew.new (l:=[.row (c'*de.size) (appF ff o (n*de.size) (m*de.size) g)]) (cs:=os.toArray++vs.toArray++Builtin.zeroCells de.zeroVal.cells (c'-(n+m))) rfl (by simpa using happ) e
    refine ⟨_,_,_,_,_,hk,⟨w.heap.size,0,by show (r++[(w.heap.size,0)])[h.length]?=_; rw [← show r.length=h.length from ok.heap.len]; simp,rfl⟩,RLe.snoc _ _,hnew,Tch.none (((Ext.refl _ _).drew).alloc _),Keeps.snoc _ _,fun o' ho=>.inl (run o' (fun ty=>?_) ho)⟩
    rw [hv,same,hrun]
  rename_i N ff hro hch
  have hroi:=ble_le hro
  obtain ⟨⟨hnc,hN,hb⟩,hk⟩:=hk
  rw [scale_eq] at hN
  have hil:i<h.length:=by
   rw [← ok.heap.len]
   rcases Nat.lt_or_ge i r.length with h|h
   ·exact h
   ·rw [List.getElem?_eq_none h] at hr; cases hr
  have hi:h[i]?=some [.row N ff]:=by
   have:=getH_eq h i
   rw [hch,List.getElem?_eq_getElem hil] at this
   rw [List.getElem?_eq_getElem hil]
   simp at this
   rw [← this]
  have hA:At (Nat.ble C.ro i) r w B f (flat [.row N ff]):=ok.heap.chunks i _ B f hi hr
  have hcell:∀ q,q<N→∃ v,w.cell? ⟨B,f+q,none⟩=some v∧(ff q).Is r v∧w.frozen? ⟨B,f+q,none⟩=false:=fun q hq=>by
   obtain ⟨v,e1,e2,e3⟩:=hA q (ff q) (by rw [flat_row_lt _ _ _ hq])
   exact ⟨v,e1,e2,(e3 hro).fr e1⟩
  have hsub:At (Nat.ble C.ro i) r w B (f+(0+o)) ((List.range (n*de.size)).map fun q=>ff (q+o)):=hA.sub (d:=0+o) (fun q y e=>by
   have hq:q<n*de.size:=by
    rcases Nat.lt_or_ge q (n*de.size) with h|h
    ·exact h
    ·rw [List.getElem?_eq_none (by simpa using h)] at e; cases e
   simp [hq] at e
   have:n*de.size≤c*de.size:=Nat.mul_le_mul_right _ hnc
   rw [show 0+o+q=q+o by omega,flat_row_lt _ _ _ (by omega),e])
  obtain ⟨os,hos,hoc⟩:=hsub.vals
  have hol:os.length=n*de.size:=by rw [← hos.1]; simp
  by_cases hfit:n+m≤c
  ·-- in place: the row goes on under a new name
   have hk:=hk c hfit
   rw [setH_eq,addH_eq,Nat.zero_add,scale_eq,scale_eq,scale_eq] at hk
   have hmul:(n+m)*de.size≤c*de.size:=Nat.mul_le_mul_right _ hfit
   rw [Nat.add_mul] at hmul
   have hst:=run_storeCells_cells (P:=C.P) B (f+(0+o)+n*de.size) vs 0 w (fun j hj=>by
     obtain ⟨v,e1,_⟩:=hcell (o+n*de.size+j) (by omega)
     rw [show f+(0+o)+n*de.size+0+j=f+(o+n*de.size+j) by omega,e1]; rfl) (fun j hj=>by
     obtain ⟨v,_,_,e3⟩:=hcell (o+n*de.size+j) (by omega)
     rw [show f+(0+o)+n*de.size+0+j=f+(o+n*de.size+j) by omega]; exact e3) hvs.one
   rw [Nat.add_zero] at hst
   have hput:=ok.heap.put (new:=[.row (m*de.size) g]) (l':=[.row N (updN ff (o+n*de.size) (m*de.size) g)]) (at_:=o+n*de.size) hr hi (by simp) (Put.in_row (by simp [flat]; omega) (fun j h1 h2=>by
     simp [flat] at h2
     have:j-(o+n*de.size)<m*de.size:=by omega
     simp [flat,updN,this,h1,h2]) (fun j hj hc=>by
     simp [flat] at hc
     have:¬ (o+n*de.size≤j∧j<o+n*de.size+m*de.size):=by omega
     simp [updN,this])) (vs:=vs) (by simpa [flat] using hvs) hroi rfl
   rw [show f+(o+n*de.size)=f+(0+o)+n*de.size by omega] at hput
   have hAp:=hput.chunks i [.row N (updN ff (o+n*de.size) (m*de.size) g)] B f (by simp [hil]) hr
   have hlen:r.length=(h.set i []).length:=by simp [ok.heap.len]
   have hnew:HeapOk C (h.set i []++[[.row (c*de.size) (appF ff o (n*de.size) (m*de.size) g)]]) (r++[(B,f+o)]) (w.setCells B (f+(0+o)+n*de.size) vs):=by
    have hr2:∀ (j B' f':Nat),(r++[(B,f+o)])[j]?=some (B',f')→(j<h.length∧r[j]?=some (B',f'))∨(j=h.length∧B'=B∧f'=f+o):=by
     intro j B' f' e
     rcases Nat.lt_trichotomy j h.length with hj|hj|hj
     ·rw [List.getElem?_append_left (by rw [ok.heap.len]; exact hj)] at e; exact .inl ⟨hj,e⟩
     ·subst hj; rw [← ok.heap.len] at e; simp at e; exact .inr ⟨rfl,e.1.symm,e.2.symm⟩
     ·rw [List.getElem?_eq_none (by simp [ok.heap.len]; omega)] at e; cases e
    have hh2:∀ (j:Nat) (ch:List Seg),(h.set i []++[[.row (c*de.size) (appF ff o (n*de.size) (m*de.size) g)]])[j]?=some ch→(j<h.length∧((j=i∧ch=[])∨(j≠i∧h[j]?=some ch)))∨(j=h.length∧ch=[.row (c*de.size) (appF ff o (n*de.size) (m*de.size) g)]):=by
     intro j ch e
     rcases Nat.lt_trichotomy j h.length with hj|hj|hj
     ·rw [List.getElem?_append_left (by simpa using hj)] at e
      by_cases hji:j=i
      ·subst hji; simp [hj] at e; exact .inl ⟨hj,.inl ⟨rfl,e⟩⟩
      ·rw [List.getElem?_set_ne (Ne.symm hji)] at e; exact .inl ⟨hj,.inr ⟨hji,e⟩⟩
     ·subst hj; rw [List.getElem?_append_right (by simp)] at e; simp at e; exact .inr ⟨rfl,e.symm⟩
     ·rw [List.getElem?_eq_none (by simp; omega)] at e; cases e
    have other:∀ (j:Nat) (ch:List Seg) (B' f':Nat),j≠i→C.ro≤j→h[j]?=some ch→r[j]?=some (B',f')→ch=[]∨B'≠B:=by
     intro j ch B' f' hji ho hj hrj
     by_cases hB:B'=B
     ·subst hB
      rcases ok.heap.apart j i B' f' f ch _ hji ho hroi hj hi hrj hr with h|h
      ·exact .inl h
      ·cases h
     ·exact .inr hB
    have hrl:=ok.heap.rlen
    have hrl2:=ok.heap.rol
    have hrl3:=ok.heap.len
    refine ⟨hput.ext,hput.agree.trans (RLe.snoc _ _),ok.heap.rol,by simp [ok.heap.len],fun j ch B' f' hj hrj=>?_,fun j B' f' ho hrj=>?_,fun j B' f' ho hrj=>?_,fun j B' f' ho hlv hrj=>?_,fun j ch ho hlv hj=>?_,fun j l B' f1 f2 ch ch' hjl o1 o2 hj hl' hr1 hr3=>?_,fun j m' B' f' ho hj hrj=>?_,fun j W ms hj=>?_⟩
    ·rcases hh2 j ch hj with ⟨h1,⟨rfl,rfl⟩|⟨h2,h3⟩⟩|⟨h1,rfl⟩
     ·intro q y e; simp [flat] at e
     ·rcases hr2 j B' f' hrj with ⟨_,h4⟩|⟨h4,_⟩
      ·exact (hput.chunks j ch B' f' (by rw [List.getElem?_set_ne (Ne.symm h2)]; exact h3) h4).mono (RLe.snoc _ _)
      ·omega
     ·rcases hr2 j B' f' hrj with ⟨h4,_⟩|⟨_,rfl,rfl⟩
      ·omega
      ·intro q y e
       have hq:q<c*de.size:=by
        rcases Nat.lt_or_ge q (c*de.size) with h|h
        ·exact h
        ·rw [List.getElem?_eq_none (by simpa [flat] using h)] at e; cases e
       rw [flat_row_lt _ _ _ hq] at e
       injection e with e
       subst e
       obtain ⟨v,e1,e2,e3⟩:=hAp (o+q) (updN ff (o+n*de.size) (m*de.size) g (o+q)) (by rw [flat_row_lt _ _ _ (by omega)])
       refine ⟨v,by rw [show f+o+q=f+(o+q) by omega]; exact e1,?_,fun _=>e3 hro⟩
       have e2:=e2.mono (RLe.snoc r (B',f+o))
       by_cases h5:q<n*de.size
       ·have h6:¬ (o+n*de.size≤o+q∧o+q<o+n*de.size+m*de.size):=by omega
        simp only [updN,if_neg h6] at e2
        simp only [appF,if_pos h5,Nat.add_comm q o]
        exact e2
       ·by_cases h6:q<n*de.size+m*de.size
        ·have h7:o+n*de.size≤o+q∧o+q<o+n*de.size+m*de.size:=by omega
         simp only [updN,if_pos h7] at e2
         simp only [appF,if_neg h5,if_pos h6]
         rwa [show o+q-(o+n*de.size)=q-n*de.size by omega] at e2
        ·simp only [appF,if_neg h5,if_neg h6]
         exact SC.Is.one e2
    ·rcases hr2 j B' f' hrj with ⟨_,h4⟩|⟨_,rfl,_⟩
     ·exact hput.lt j B' f' ho h4
     ·exact hput.lt i B' f hroi hr
    ·rcases hr2 j B' f' hrj with ⟨_,h4⟩|⟨_,rfl,_⟩
     ·exact hput.own j B' f' ho h4
     ·exact hput.own i B' f hroi hr
    ·rcases hr2 j B' f' hrj with ⟨_,h4⟩|⟨h4,_⟩
     ·exact ok.heap.ros j B' f' ho hlv h4
     ·omega
    ·rcases hh2 j ch hj with ⟨h1,⟨rfl,rfl⟩|⟨h2,h3⟩⟩|⟨h1,rfl⟩
     ·omega
     ·exact ok.heap.dead j ch ho hlv h3
     ·omega
    ·rcases hh2 j ch hj with ⟨h1,⟨rfl,rfl⟩|⟨h2,h3⟩⟩|⟨h1,rfl⟩
     ·exact .inl rfl
     ·rcases hh2 l ch' hl' with ⟨g1,⟨rfl,rfl⟩|⟨g2,g3⟩⟩|⟨g1,rfl⟩
      ·exact .inr rfl
      ·rcases hr2 j B' f1 hr1 with ⟨_,a1⟩|⟨a1,_⟩ <;> rcases hr2 l B' f2 hr3 with ⟨_,a2⟩|⟨a2,_⟩
       ·exact ok.heap.apart j l B' f1 f2 ch ch' hjl o1 o2 h3 g3 a1 a2
       ·omega
       ·omega
       ·omega
      ·rcases hr2 j B' f1 hr1 with ⟨_,a1⟩|⟨a1,_⟩ <;> rcases hr2 l B' f2 hr3 with ⟨a2,_⟩|⟨_,a2,_⟩
       ·omega
       ·subst a2
        rcases other j ch B' f1 h2 o1 h3 a1 with h|h
        ·exact .inl h
        ·exact absurd rfl h
       ·omega
       ·omega
     ·rcases hh2 l ch' hl' with ⟨g1,⟨rfl,rfl⟩|⟨g2,g3⟩⟩|⟨g1,rfl⟩
      ·exact .inr rfl
      ·rcases hr2 j B' f1 hr1 with ⟨a1,_⟩|⟨_,a1,_⟩ <;> rcases hr2 l B' f2 hr3 with ⟨_,a2⟩|⟨a2,_⟩
       ·omega
       ·omega
       ·subst a1
        rcases other l ch' B' f2 g2 o2 g3 a2 with h|h
        ·exact .inr h
        ·exact absurd rfl h
       ·omega
      ·omega
    ·rcases hh2 j _ hj with ⟨h1,⟨_,h2⟩|⟨h2,h3⟩⟩|⟨_,h2⟩
     ·cases h2
     ·rcases hr2 j B' f' hrj with ⟨_,h4⟩|⟨h4,_⟩
      ·exact hput.maps j m' B' f' ho (by rw [List.getElem?_set_ne (Ne.symm h2)]; exact h3) h4
      ·omega
     ·cases h2
    ·rcases hh2 j _ hj with ⟨h1,⟨_,h2⟩|⟨h2,h3⟩⟩|⟨_,h2⟩
     ·cases h2
     ·obtain ⟨p1,p2,p3⟩:=hput.past j W ms (by rw [List.getElem?_set_ne (Ne.symm h2)]; exact h3)
      refine ⟨p1,p2,fun q B' f' ho hrq hB=>?_⟩
      rcases hr2 q B' f' hrq with ⟨_,h4⟩|⟨_,rfl,_⟩
      ·exact p3 q B' f' ho h4 hB
      ·exact p3 i B' f hroi hr hB
     ·cases h2
   refine ⟨.slice (some ⟨B,f+(0+o),none⟩) (n+m) c,_,_,_,_,hk,⟨B,f+o,by rw [List.length_set,← show r.length=h.length from ok.heap.len]; simp,by rw [show f+o+(0+0)=f+(0+o) by omega]⟩,RLe.snoc _ _,hnew,⟨[B],Ext.setCells B (.inl (by simp)) _ _ (Ext.refl _ _),fun B' hB'=>⟨s,by simp [tgtOf,hargs],by rw [hv]; simp at hB'; simp [blockOf,hB']⟩⟩,(Keeps.set hi rfl _).trans (Keeps.snoc _ _),fun o' ho=>.inl (run o' (fun ty=>?_) ho)⟩
   rw [hv]
   have:=run_app_fit (base:=some ⟨B,f+(0+o),none⟩) hts hkk hu2 hv2 hde ty hl (hfc' w (fun _ _ _ h=>h)) hfit (w':=w.setCells B (f+(0+o)+n*de.size) vs) (by
    simp only [add_none]
    exact hst)
   exact this
  ·have hgr:=fun ty=>run_app_grow (base:=some ⟨B,f+(0+o),none⟩) (n:=n) (c:=c) (xv:=a.eval x) (w:=w) (os:=os) hts hkk hu2 hv2 hde ty hl (hfc' w.drew (fun _ _ _ h=>h)) hfit hb0 (by rw [hby]; exact hb) (by
    have:=run_loadCells_list (P:=C.P) w.drew ⟨B,f+(0+o),none⟩ os (fun j v e=>by rw [add_none]; exact hoc j v e)
    rw [hol] at this
    exact this)
   have same:∀ ty:TypeId,(Builtin.append_ ts ty #[.slice (some ⟨B,f+(0+o),none⟩) n c,a.eval x]).run C.P w=(Builtin.append_ ts 0 #[.slice (some ⟨B,f+(0+o),none⟩) n c,a.eval x]).run C.P w:=fun _=>rfl
   obtain ⟨c',hc',hrun⟩:=hgr 0
   have hk:=hk c' hc'
   rw [setH_eq,addH_eq,Nat.zero_add,scale_eq,scale_eq,scale_eq] at hk
   obtain ⟨z1,z2⟩:=zeroCells_one hde (c'-(n+m))
   have happ:IsL r (flat [Seg.row (c'*de.size) (appF ff o (n*de.size) (m*de.size) g)]) (os++vs++(Builtin.zeroCells de.zeroVal.cells (c'-(n+m))).toList):=by
    have hcc:(n+m)*de.size+(c'-(n+m))*de.size=c'*de.size:=by rw [← Nat.add_mul]; congr 1; omega
    rw [Nat.add_mul] at hcc
    refine ⟨by simp [flat,hol,hvl,z1]; omega,fun j y e=>?_⟩
    have hj:j<c'*de.size:=by
     rcases Nat.lt_or_ge j (c'*de.size) with h|h
     ·exact h
     ·rw [List.getElem?_eq_none (by simpa [flat] using h)] at e; cases e
    rw [flat_row_lt _ _ _ hj] at e
    injection e with e
    subst e
    by_cases h5:j<n*de.size
    ·obtain ⟨v,e1,e2⟩:=hos.2 j (ff (j+o)) (by simp [h5])
     exact ⟨v,by rw [List.append_assoc,List.getElem?_append_left (by omega)]; exact e1,by simp only [appF,if_pos h5]; exact e2⟩
    ·by_cases h6:j<n*de.size+m*de.size
     ·obtain ⟨v,e1,e2⟩:=hvs.2 (j-n*de.size) (g (j-n*de.size)) (by rw [List.getElem?_map,List.getElem?_range (by omega)]; rfl)
      exact ⟨v,by rw [List.append_assoc,List.getElem?_append_right (by omega),List.getElem?_append_left (by omega),hol]; exact e1,by simp only [appF,if_neg h5,if_pos h6]; exact e2⟩
     ·have hz':j-(n*de.size+m*de.size)<(Builtin.zeroCells de.zeroVal.cells (c'-(n+m))).toList.length:=by rw [z1]; omega
      refine ⟨(Builtin.zeroCells de.zeroVal.cells (c'-(n+m))).toList[j-(n*de.size+m*de.size)],?_,?_⟩
      ·rw [List.getElem?_append_right (by simp; omega)]
       rw [show j-(os++vs).length=j-(n*de.size+m*de.size) by simp [hol,hvl]]
       exact List.getElem?_eq_getElem hz'
      ·simp only [appF,if_neg h5,if_neg h6]
       exact z2 _ (List.getElem_mem _)
   have hforget:HeapOk C (h.set i []) r w.drew:=by
    refine ⟨ok.heap.drew.ext,ok.heap.agree,ok.heap.rol,by simp [ok.heap.len],fun j ch B' f' hj hrj=>?_,ok.heap.drew.lt,ok.heap.own,ok.heap.ros,fun j ch ho hlv hj=>?_,fun j l B' f1 f2 ch ch' hjl o1 o2 hj hl' hr1 hr3=>?_,fun j m' B' f' ho hj hrj=>?_,fun j W ms hj=>?_⟩
    ·by_cases hji:j=i
     ·subst hji
      simp [hil] at hj
      subst hj
      intro q y e; simp [flat] at e
     ·rw [List.getElem?_set_ne (Ne.symm hji)] at hj
      exact ok.heap.drew.chunks j ch B' f' hj hrj
    ·have hji:j≠i:=fun e=>by subst e; omega
     rw [List.getElem?_set_ne (Ne.symm hji)] at hj
     exact ok.heap.dead j ch ho hlv hj
    ·by_cases hji:j=i
     ·subst hji
      simp [hil] at hj
      exact .inl hj
     ·by_cases hli:l=i
      ·subst hli
       simp [hil] at hl'
       exact .inr hl'
      ·rw [List.getElem?_set_ne (Ne.symm hji)] at hj
       rw [List.getElem?_set_ne (Ne.symm hli)] at hl'
       exact ok.heap.apart j l B' f1 f2 ch ch' hjl o1 o2 hj hl' hr1 hr3
    ·have hji:j≠i:=fun e=>by subst e; simp [hil] at hj
     rw [List.getElem?_set_ne (Ne.symm hji)] at hj
     exact ok.heap.drew.maps j m' B' f' ho hj hrj
    ·have hji:j≠i:=fun e=>by subst e; simp [hil] at hj
     rw [List.getElem?_set_ne (Ne.symm hji)] at hj
     exact ok.heap.drew.past j W ms hj
   have hnew:=hforget.new (l:=[.row (c'*de.size) (appF ff o (n*de.size) (m*de.size) g)]) (cs:=os.toArray++vs.toArray++Builtin.zeroCells de.zeroVal.cells (c'-(n+m))) rfl (by simpa using happ) e
   refine ⟨_,_,_,_,_,hk,⟨w.heap.size,0,by show (r++[(w.heap.size,0)])[(h.set i []).length]?=_; rw [List.length_set,← show r.length=h.length from ok.heap.len]; simp,rfl⟩,RLe.snoc _ _,hnew,Tch.none (((Ext.refl _ _).drew).alloc _),(Keeps.set hi rfl _).trans (Keeps.snoc _ _),fun o' ho=>.inl (run o' (fun ty=>?_) ho)⟩
   rw [hv,same,hrun]
 ·rename_i z i0 b0 o0 e'
  simp only [e'] at hv
  obtain ⟨hb,hk0,hk1⟩:=hk
  obtain ⟨base,hv,hb0',hz⟩:∃ base:Option Addr,a.eval s=.slice base 0 0∧(∀ x,base=some x→∃ (B f:Nat) (s:Option Nat),x=⟨B,f,s⟩)∧(base=none→z=true)∧((∃ x,base=some x)→z=false):=by
   rcases hv with ⟨hz,hv,_,_⟩|⟨hz,B,f,_,hv⟩|⟨hz,_,_,B,f,s,hv⟩
   ·exact ⟨none,hv,fun x e=>(by cases e),fun _=>hz,fun ⟨x,e⟩=>(by cases e)⟩
   ·exact ⟨_,hv,fun x e=>(by injection e with e; exact ⟨_,_,_,e.symm⟩),fun e=>(by cases e),fun _=>hz⟩
   ·exact ⟨_,hv,fun x e=>(by injection e with e; exact ⟨_,_,_,e.symm⟩),fun e=>(by cases e),fun _=>hz⟩
  rcases Nat.eq_zero_or_pos m with hm|hm
  ·subst hm
   have hvn:vs=[]:=List.eq_nil_of_length_eq_zero (by rw [hvl,Nat.zero_mul])
   subst hvn
   have hr:∀ (o:Oper),o.op=.call ⟨.builtin .append,args,ts⟩→(execOp a.eval o).run C.P w=.ok (.value (.slice base 0 0)) w:=fun o ho=>by
    refine run o (fun ty=>?_) ho
    rw [hv]
    refine run_app_fit hts hkk hu2 hv2 hde ty hl (hfc' w (fun _ _ _ h=>h)) (by omega) ?_
    cases base with
    | none=>rfl
    | some x=>rfl
   cases base with
   | none=>exact ⟨_,_,_,_,_,(hk0 rfl).1 (hz.1 rfl),rfl,RLe.refl _,ok.heap,Tch.none (Ext.refl _ _),Keeps.refl _,fun o ho=>.inl (hr o ho)⟩
   | some x =>
    obtain ⟨B,f,s,rfl⟩:=hb0' x rfl
    exact ⟨_,_,_,_,_,(hk0 rfl).2 (hz.2 ⟨_,rfl⟩) B f s,rfl,RLe.refl _,ok.heap,Tch.none (Ext.refl _ _),Keeps.refl _,fun o ho=>.inl (hr o ho)⟩
  ·have hgr:∀ ty:TypeId,∃ c',0+m≤c'∧_:=fun ty=>run_app_grow (base:=base) (n:=0) (c:=0) (xv:=a.eval x) (w:=w) (os:=[]) hts hkk hu2 hv2 hde ty hl (hfc' w.drew (fun _ _ _ h=>h)) (by omega) hb0 (by rw [hby]; simpa using hb) (by
    cases base with
    | none=>simp [Builtin.firstCells,pure]
    | some x =>
     obtain ⟨B,f,s,rfl⟩:=hb0' x rfl
     have:=run_loadCells_list (P:=C.P) w.drew ⟨B,f,s⟩ [] (fun j v e=>by simp at e)
     simpa [Builtin.firstCells] using this)
   have same:∀ ty:TypeId,(Builtin.append_ ts ty #[.slice base 0 0,a.eval x]).run C.P w=(Builtin.append_ ts 0 #[.slice base 0 0,a.eval x]).run C.P w:=fun _=>rfl
   obtain ⟨c',hc',hrun⟩:=hgr 0
   have hk1:=hk1 hm c' (by omega)
   rw [addH_eq,Nat.zero_add,scale_eq,scale_eq] at hk1
   obtain ⟨z1,z2⟩:=zeroCells_one hde (c'-(0+m))
   have hnew:=ok.heap.drew.new (l:=[.row (c'*de.size) (newF (m*de.size) g)]) (cs:=#[]++vs.toArray++Builtin.zeroCells de.zeroVal.cells (c'-(0+m))) rfl (by
    have:=newF_is (N:=c'*de.size) hvs (by rw [z1,← Nat.add_mul]; congr 1; omega) z2
    simpa using this) e
   refine ⟨_,_,_,_,_,hk1,⟨w.heap.size,0,by show (r++[(w.heap.size,0)])[h.length]?=_; rw [← show r.length=h.length from ok.heap.len]; simp,rfl⟩,RLe.snoc _ _,hnew,Tch.none (((Ext.refl _ _).drew).alloc _),Keeps.snoc _ _,fun o ho=>.inl (run o (fun ty=>?_) ho)⟩
   rw [hv,same,hrun]
   simp
end
end Sx
end
section
namespace Sx
open Go.RowKit

theorem putRow_spec:∀ {l:List Seg} {b o m:Nat} {g:Nat→SC} {K:List Seg→Prop},cpS.putRow l b o m g K→∃ l',K l'∧Put [.row m g] l l' (b+o)∧hd1 l'=true
 | .row n f::r,0,o,m,g,K,h=>by
  obtain ⟨h1,h2⟩:=(show o+m≤n∧K (.row n (updN f o m g)::r) from h)
  refine ⟨_,h2,And.intro ?_ rfl⟩
  rw [Nat.zero_add]
  refine Put.in_row (by simp [flat]; omega) (fun j a b=>?_) (fun j hj hc=>?_)
  ·simp [flat] at b
   have:j-o<m:=by omega
   simp [flat,updN,this,a,b]
  ·simp [flat] at hc
   have:¬ (o≤j∧j<o+m):=by omega
   simp [updN,this]
 | .one y::r,b+1,o,m,g,K,h=>by
  obtain ⟨l',h1,h2,_⟩:=putRow_spec (l:=r) (b:=b) (o:=o) (show cpS.putRow r b o m g (fun l=>K (.one y::l)) from h)
  exact ⟨_,h1,by have:=h2.one y; rwa [show b+o+1=b+1+o by omega] at this,rfl⟩
 | .row n f::r,b+1,o,m,g,K,h=>by
  unfold cpS.putRow at h
  split at h
  ·rename_i hb
   have hn:=Nat.le_of_ble_eq_true hb
   obtain ⟨l',h1,h2,_⟩:=putRow_spec (l:=r) (b:=b+1-n) (o:=o) h
   exact ⟨_,h1,by have:=h2.row (n:=n) f; rwa [show b+1-n+o+n=b+1+o by omega] at this,rfl⟩
  ·exact h.elim
 | [],_,_,_,_,_,h=>h.elim
 | .one _::_,0,_,_,_,_,h=>h.elim
 | .obj _::_,0,_,_,_,_,h=>h.elim
 | .obj _::_,_+1,_,_,_,_,h=>h.elim
 | .past _ _::_,0,_,_,_,_,h=>h.elim
 | .past _ _::_,_+1,_,_,_,_,h=>h.elim
theorem putRow_st {l:List Seg} {b o m:Nat} {g:Nat→SC} {K:List Seg→Prop} (h:cpS.putRow l b o m g K):stirs l=true:=by
 cases l with
 | nil=>cases b <;> exact h.elim
 | cons a l=>cases a <;> first|rfl|(cases b <;> exact h.elim)
theorem putRow_ne {l:List Seg} {b o m:Nat} {g:Nat→SC} {K:List Seg→Prop} (h:cpS.putRow l b o m g K):l≠[]:=by
 rintro rfl
 cases b <;> exact h
section
variable {C : Cx} {t : List SV} {h : List (List Seg)} {r : Rho} {a : Act} {w : World} {k : SV → List (List Seg) → Prop}
theorem ch_copy {args:Array Operand} {ts:Array TypeId} (hT:AllT C.P C.T) (ok:Ok C ⟨t,h⟩ r a w) (hk:cpS C t h args.toList ts.toList k):ChOk C h (.call ⟨.builtin .copy,args,ts⟩) a w r k:=by
 unfold cpS at hk
 split at hk <;> try exact hk.elim
 rename_i s x u us hargs hts
 obtain ⟨d,hd,hk⟩:=td_spec hT hk
 have hkk:=hd.kind
 split at hk <;> try exact hk.elim
 rename_i e hkd
 rw [hkd] at hkk
 simp only [TK.Ok] at hkk
 obtain ⟨de,hde,hk⟩:=td_spec hT hk
 split at hk <;> try exact hk.elim
 rename_i hsz
 obtain ⟨m,g,hk,hl,vs,hvs,hfc⟩:=srcC_spec ok hk
 simp only [Nat.mul_one] at hvs hfc
 have hv:=ok.ev s
 have hvl:vs.length=m:=by rw [← hvs.1]; simp
 have run:∀ (o:Oper) {v w'},(∀ ty,(Builtin.copy_ ts ty #[a.eval s,a.eval x]).run C.P w=.ok v w')→o.op=.call ⟨.builtin .copy,args,ts⟩→(execOp a.eval o).run C.P w=.ok (.value v) w':=by
  intro o v w' hr ho
  simp only [execOp,ho,resolve]
  refine exec_v ?_
  rw [map_eval2 hargs]
  exact hr _
 have h0:ts[0]?=some u:=by rw [← Array.getElem?_toList,hts]; rfl
 have cp:∀ {base:Option Addr} {n c:Nat} {w':World} (ty:TypeId),(match base with|some a=>storeCells a (vs.take (min m n))|none=>pure ():Sem Unit).run C.P w=.ok () w'→(Builtin.copy_ ts ty #[.slice base n c,a.eval x]).run C.P w=.ok (.int .i64 ((min m n:Nat):Int)) w':=by
  intro base n c w' ty hst
  have e0:(#[Value.slice base n c,a.eval x]:Array Value)[0]?=some (.slice base n c):=rfl
  have e1:(#[Value.slice base n c,a.eval x]:Array Value)[1]?=some (a.eval x):=rfl
  have hf:=hfc (min m n) (Nat.min_le_left _ _) w (fun _ _ _ h=>h)
  simp only [Builtin.copy_,h0,e0,e1,Sem.run_bind,run_underlying hkk,Result.andThen_ok,hl,hde.sizeOf,hsz]
  rw [show Nat.min m n=min m n from rfl,hf]
  cases base with
  | none =>
   simp only [Sem.run_pure] at hst
   injection hst with _ hst
   simp only [Result.andThen_ok,Sem.run_pure,hst,goInt]
  | some a =>
   simp only at hst
   simp only [Result.andThen_ok,Sem.run_bind,hst,Sem.run_pure,goInt]
 split at hk <;> try exact hk.elim
 ·rename_i i b o n c e'
  simp only [e'] at hv
  split at hk <;> try exact hk.elim
  rename_i hro
  obtain ⟨B,f,hr,hv⟩:=hv
  have hne:=putRow_ne hk
  have hst0:=putRow_st hk
  obtain ⟨l',hk,hput,hhd⟩:=putRow_spec hk
  rw [setH_eq] at hk
  have hil:i<h.length:=by
   rw [← show r.length=h.length from ok.heap.len]
   rcases Nat.lt_or_ge i r.length with h|h
   ·exact h
   ·rw [List.getElem?_eq_none h] at hr; cases hr
  have hi:h[i]?=some (getH h i):=by rw [getH_eq,List.getElem?_eq_getElem hil]; rfl
  have hA:=ok.heap.chunks i _ B f hi hr
  have hvt:IsL r (flat [Seg.row (min m n) g]) (vs.take (min m n)):=by
   refine ⟨by simp [flat,hvl],fun j y e=>?_⟩
   have hj:j<min m n:=by
    rcases Nat.lt_or_ge j (min m n) with h|h
    ·exact h
    ·rw [List.getElem?_eq_none (by simpa [flat] using h)] at e; cases e
   rw [flat_row_lt _ _ _ hj] at e
   injection e with e
   subst e
   obtain ⟨v,e1,e2⟩:=hvs.2 j (g j) (by rw [List.getElem?_map,List.getElem?_range (by omega)]; rfl)
   exact ⟨v,by rw [List.getElem?_take,if_pos hj]; exact e1,e2⟩
  have hst:=run_storeCells_cells (P:=C.P) B (f+(b+o)) (vs.take (min m n)) 0 w (fun j hj=>by
    have hq:b+o+j<(flat (getH h i)).length:=by have:=hput.1; rw [hvt.1] at this; omega
    obtain ⟨u',e1,_⟩:=hA _ _ (List.getElem?_eq_getElem hq)
    rw [show f+(b+o)+0+j=f+(b+o+j) by omega,e1]; rfl) (fun j hj=>by
    have hq:b+o+j<(flat (getH h i)).length:=by have:=hput.1; rw [hvt.1] at this; omega
    obtain ⟨u',e1,_,e3⟩:=hA _ _ (List.getElem?_eq_getElem hq)
    rw [show f+(b+o)+0+j=f+(b+o+j) by omega]; exact (e3 hro).fr e1) hvt.one
  rw [Nat.add_zero] at hst
  exact ⟨_,_,_,_,_,hk,rfl,RLe.refl _,ok.heap.put hr hi hne hput hvt (ble_le hro) hhd,⟨[B],Ext.setCells B (.inl (by simp)) _ _ (Ext.refl _ _),fun B' hB'=>⟨s,by simp [tgtOf,hargs],by rw [hv]; simp at hB'; simp [blockOf,hB']⟩⟩,Keeps.set hi hst0 _,fun o' ho=>.inl (run o' (fun ty=>by rw [hv]; exact cp ty hst) ho)⟩
 ·rename_i n c e'
  simp only [e'] at hv
  obtain ⟨rfl,hk⟩:=hk
  have hv:a.eval s=.slice none 0 c:=hv
  exact ⟨_,_,_,_,_,hk,rfl,RLe.refl _,ok.heap,Tch.none (Ext.refl _ _),Keeps.refl _,fun o' ho=>.inl (run o' (fun ty=>by rw [hv]; have:=cp (base:=none) (n:=0) (c:=c) ty rfl; simpa using this) ho)⟩
theorem ch_bytes {u v:TypeId} {x:Operand} (hT:AllT C.P C.T) (ok:Ok C ⟨t,h⟩ r a w) (hk:stepC C (.convert u v x) t h k):ChOk C h (.convert u v x) a w r k:=by
 unfold stepC at hk
 obtain ⟨du,hdu,hk⟩:=td_spec hT hk
 obtain ⟨dv,hdv,hk⟩:=td_spec hT hk
 have h1:=hdu.kind
 have h2:=hdv.kind
 split at hk <;> try exact hk.elim
 rename_i e l e1 e2 e3
 rw [e1] at h1
 rw [e2] at h2
 simp only [TK.Ok] at h1 h2
 obtain ⟨de,hde,hk⟩:=td_spec hT hk
 have h3:=hde.kind
 split at hk <;> try exact hk.elim
 all_goals
  rename_i e4
  have hmk:marksOk=true:=rfl
  rw [e4] at h3
  simp only [TK.Ok] at h3
  have hv:=ok.ev x
  simp only [e3] at hv
  have hv:a.eval x=.string ⟨l.toArray⟩:=hv
  have hrun:=run_bytes_of_string (P:=C.P) w u v e ⟨l.toArray⟩ h1 h2 h3
  have hsz:(⟨l.toArray⟩:ByteArray).size=l.length:=rfl
  rw [hsz] at hrun
  have hcap:l.length≤grownCap w l.length 0 e:=by unfold grownCap Question.cut; exact Nat.le_add_right _ _
  generalize grownCap w l.length 0 e=cap at hrun hcap
  have hk:=hk cap hcap
  rw [addH_eq,Nat.zero_add] at hk
  have hrs:(bytesRow ⟨l.toArray⟩ cap).size=cap:=by simp [bytesRow,hsz]; omega
  have hnew:=ok.heap.drew.newF (l:=[.row cap (fun q=>if q<l.length then .w8 (l.getD q 0).toBitVec else .w8 0)]) (cs:=bytesRow ⟨l.toArray⟩ cap) rfl (by
   refine ⟨by simp [flat,hrs],fun j y ey=>?_⟩
   have hj:j<cap:=by
    rcases Nat.lt_or_ge j cap with h|h
    ·exact h
    ·rw [List.getElem?_eq_none (by simpa [flat] using h)] at ey; cases ey
   rw [flat_row_lt _ _ _ hj] at ey
   injection ey with ey
   subst ey
   by_cases hjl:j<l.length
   ·rw [if_pos hjl]
    refine ⟨.int .u8 (l[j].toNat:Int),?_,?_⟩
    ·simp only [bytesRow,Array.getElem?_toList]
     rw [Array.getElem?_append_left (by simpa using hjl)]
     simp [hjl]
    ·simp [SC.Is,hjl]
   ·rw [if_neg hjl]
    refine ⟨.int .u8 0,?_,rfl⟩
    simp only [bytesRow,Array.getElem?_toList]
    rw [Array.getElem?_append_right (by simpa using Nat.le_of_not_lt hjl)]
    rw [Array.getElem?_replicate,if_pos (by simp [hsz]; omega)]) e (cap,cap+1) (.inr ⟨hmk,by rw [hrs]; exact Nat.le_refl _⟩)
  rw [hrs] at hrun
  refine ⟨_,_,_,_,_,hk,⟨w.heap.size,0,by show (r++[(w.heap.size,0)])[h.length]?=_; rw [← show r.length=h.length from ok.heap.len]; simp,rfl⟩,RLe.snoc _ _,hnew,Tch.none (((Ext.refl _ _).drew).alloc _),Keeps.snoc _ _,fun o ho=>.inl ?_⟩
  simp only [execOp,ho]
  refine exec_v ?_
  rw [hv]
  exact hrun
theorem stepC_sound {op:Op} (hT:AllT C.P C.T) (ok:Ok C ⟨t,h⟩ r a w) (hk:stepC C op t h k):ChOk C h op a w r k:=by
 cases op <;> try exact hk.elim
 case alloc=>exact ch_alloc hT ok hk
 case box=>exact ch_box hT ok hk
 case store=>exact ch_store hT ok hk
 case buildSlice=>exact ch_buildSlice hT ok hk
 case makeSlice=>exact ch_makeSlice hT ok hk
 case makeMap=>exact ch_makeMap hT ok hk
 case mapUpdate=>exact ch_mapUpdate hT ok hk
 case range=>exact ch_range hT ok hk
 case next=>exact ch_next hT ok hk
 case convert=>exact ch_bytes hT ok hk
 case call c =>
  obtain ⟨callee,args,ts⟩:=c
  cases callee <;> try exact hk.elim
  rename_i b
  cases b <;> try exact hk.elim
  case append=>exact ch_append hT ok hk
  case copy=>exact ch_copy hT ok hk
end
end Sx
end
section
namespace Sx
open Go.RowKit

section
variable {C : Cx} {t : List SV} {h : List (List Seg)} {r : Rho} {a : Act} {w : World}
theorem isAs_snoc {l:List SA} {vs:List Value} {x:SA} {v:Value} (h:IsAs r l vs) (hx:x.Is r v):IsAs r (l++[x]) (vs++[v]):=⟨by simp [h.1],fun j y e=>by
 rcases Nat.lt_trichotomy j l.length with hj|hj|hj
 ·rw [List.getElem?_append_left hj] at e
  obtain ⟨u,e1,e2⟩:=h.2 j y e
  exact ⟨u,by rw [List.getElem?_append_left (by rw [← h.1]; exact hj)]; exact e1,e2⟩
 ·subst hj
  simp at e
  subst e
  exact ⟨v,by rw [h.1]; simp,hx⟩
 ·rw [List.getElem?_eq_none (by simp; omega)] at e; cases e⟩
theorem evs_spec (ok:Ok C ⟨t,h⟩ r a w):∀ {xs:List Operand} {K:List SA→Prop},evs t xs K→∃ l,K l∧IsAs r l (xs.map a.eval)
 | [],K,hk=>⟨[],hk,rfl,fun j x e=>by simp at e⟩
 | x::xs,K,hk=>by
  have hv:=ok.ev x
  have cons:∀ {y:SA} {l:List SA},SA.Is r y (a.eval x)→IsAs r l (xs.map a.eval)→IsAs r (y::l) ((x::xs).map a.eval):=by
   intro y l h1 h2
   refine ⟨by simpa using h2.1,fun j z e=>?_⟩
   cases j with
   | zero=>simp at e; subst e; exact ⟨_,rfl,h1⟩
   | succ j=>exact h2.2 j z e
  unfold evs at hk
  split at hk
  ·rename_i y e
   simp only [e] at hv
   rw [frcSC_eq] at hk
   obtain ⟨l,h1,h2⟩:=evs_spec ok hk
   exact ⟨_,h1,cons hv h2⟩
  ·rename_i g e
   simp only [e] at hv
   obtain ⟨l,h1,h2⟩:=evs_spec ok hk
   exact ⟨_,h1,cons hv h2⟩
  ·exact hk.elim
theorem Ok.put {s:St} {r':Rho} {w':World} {h':List (List Seg)} {x:SV} {v:Value} (ok:Ok C s r a w) (hr:RLe r r') (hh:HeapOk C h' r' w') (hx:x.Is r' v) (d:Nat):Ok C ⟨s.t.set d x,h'⟩ r' (a.put (some d) v) w':=by
 refine ⟨hh,by simpa [Act.put] using ok.size,fun e y he=>?_,ok.defers⟩
 by_cases hde:d=e
 ·subst hde
  simp only [List.getElem?_set_self'] at he
  cases hs:s.t[d]? with
  | none=>rw [hs] at he; cases he
  | some z =>
   rw [hs] at he
   simp at he
   subst he
   have hd:d<a.tmps.size:=by
    rw [ok.size]
    rcases Nat.lt_or_ge d s.t.length with h|h
    ·exact h
    ·rw [List.getElem?_eq_none h] at hs; cases hs
   simp only [Act.put]
   simpa [hd] using hx
 ·rw [List.getElem?_set_ne hde] at he
  have:=ok.slots e y he
  simp only [Act.put]
  rw [show (a.tmps.setIfInBounds d v).getD e undef=a.tmps.getD e undef by
   rw [Array.getD_eq_getD_getElem?,Array.getD_eq_getD_getElem?,Array.getElem?_setIfInBounds_ne hde]]
  exact this.mono hr
theorem Ok.keep {s:St} {r':Rho} {w':World} {h':List (List Seg)} (ok:Ok C s r a w) (hr:RLe r r') (hh:HeapOk C h' r' w'):Ok C ⟨s.t,h'⟩ r' a w' :=
 ⟨hh,ok.size,fun e y he=>(ok.slots e y he).mono hr,ok.defers⟩
theorem undef_is (r:Rho):SV.Is r (.tup []) undef:=⟨[],rfl,rfl,fun j x e=>by simp at e⟩
abbrev based (C:Cx) (h:List (List Seg)) (r:Rho) (w:World):Cx:=⟨C.P,C.T,w,(r.drop C.ro).map (·.1),r,C.ro,C.live,fun B=>∃ (i:Nat) (W:World) (ms:List Nat),h[i]?=some [.past W ms]∧B<W.heap.size∧B ∉ ms⟩
theorem srcC_mono {C':Cx} (hR:∀ b l,RawAt C h b l→RawAt C' h b l) {sz:Nat} {x:SV} {K:Nat→(Nat→SC)→Prop} (hk:srcC C sz h x K):srcC C' sz h x K:=by
 unfold srcC at hk ⊢
 split at hk
 ·exact hk
 ·exact hk
 ·obtain ⟨f,h1,h2⟩:=hk
  exact ⟨f,h1.imp id (hR _ _),h2⟩
 ·exact hk
 ·exact hk
 ·exact hk.elim
theorem td_imp {C':Cx} (hT:C'.T=C.T) {u:Nat} {K K':TD→Prop} (hK:∀ d,K d→K' d) (hk:td C u K):td C' u K':=by
 unfold td at hk ⊢
 rw [hT]
 cases e:findT C.T u with
 | none=>rw [e] at hk; exact hk.elim
 | some d=>rw [e] at hk; exact hK _ hk
theorem stepC_mono {w1:World} {m1:List Nat} {r1:Rho} {sf1:Nat→Prop} (hR:∀ b l,RawAt C h b l→RawAt ⟨C.P,C.T,w1,m1,r1,C.ro,C.live,sf1⟩ h b l) {op:Op} {k:SV→List (List Seg)→Prop} (hk:stepC C op t h k):stepC ⟨C.P,C.T,w1,m1,r1,C.ro,C.live,sf1⟩ op t h k:=by
 cases op <;> try exact hk
 case next x s =>
  cases s
  ·exact (show False from hk).elim
  ·exact hk
 rename_i c
 obtain ⟨f,args,ts⟩:=c
 cases f <;> try exact hk
 rename_i b
 cases b <;> try exact hk
 ·have hk:appS C t h args.toList ts.toList k:=hk
  show appS _ t h args.toList ts.toList k
  unfold appS at hk ⊢
  split at hk <;> try exact hk.elim
  refine td_imp (C:=C) (C':=⟨C.P,C.T,w1,m1,r1,C.ro,C.live,sf1⟩) rfl (fun d hk=>?_) hk
  cases hd:d.k <;> simp only [hd] at hk ⊢
  refine td_imp (C:=C) (C':=⟨C.P,C.T,w1,m1,r1,C.ro,C.live,sf1⟩) rfl (fun de hk=>?_) hk
  refine td_imp (C:=C) (C':=⟨C.P,C.T,w1,m1,r1,C.ro,C.live,sf1⟩) rfl (fun d2 hk=>?_) hk
  cases h1:isIntK d2.k <;> cases h2:de.size <;> cases h3:de.bytes <;> simp only [h1,h2,h3] at hk ⊢
  exact srcC_mono (C:=C) hR hk
 ·have hk:cpS C t h args.toList ts.toList k:=hk
  show cpS _ t h args.toList ts.toList k
  unfold cpS at hk ⊢
  split at hk <;> try exact hk.elim
  refine td_imp (C:=C) (C':=⟨C.P,C.T,w1,m1,r1,C.ro,C.live,sf1⟩) rfl (fun d hk=>?_) hk
  cases hd:d.k <;> simp only [hd] at hk ⊢
  refine td_imp (C:=C) (C':=⟨C.P,C.T,w1,m1,r1,C.ro,C.live,sf1⟩) rfl (fun de hk=>?_) hk
  split at hk <;> try exact hk.elim
  exact srcC_mono (C:=C) hR hk
theorem mem_drop {r:Rho} {n B:Nat}:B∈(r.drop n).map (·.1) ↔ ∃ i f,n≤i∧r[i]?=some (B,f):=by
 constructor
 ·intro h
  obtain ⟨⟨B',f⟩,hx,rfl⟩:=List.mem_map.1 h
  obtain ⟨i,hi,e⟩:=List.mem_iff_getElem.1 hx
  have e':(r.drop n)[i]?=some (B',f):=by rw [List.getElem?_eq_getElem hi,e]
  rw [List.getElem?_drop] at e'
  exact ⟨n+i,f,by omega,e'⟩
 ·rintro ⟨i,f,hi,e⟩
  refine List.mem_map.2 ⟨(B,f),List.mem_of_getElem? (i:=i-n) ?_,rfl⟩
  rw [List.getElem?_drop,show n+(i-n)=i by omega,e]
theorem HeapOk.mem (ok:HeapOk C h r w) {B:Nat} (hB:B∈(r.drop C.ro).map (·.1)):B∈C.m∨C.w0.heap.size≤B:=by
 obtain ⟨i,f,hi,e⟩:=mem_drop.1 hB
 exact ok.own i _ _ hi e
theorem HeapOk.based (ok:HeapOk C h r w):HeapOk (Sx.based C h r w) h r w :=
 ⟨Ext.refl _ _,RLe.refl _,Nat.le_trans ok.rol ok.rlen,ok.len,ok.chunks,ok.lt,fun i B f ho h=>.inl (mem_drop.2 ⟨i,f,ho,h⟩),fun i B f ho hl hr=>by
  obtain ⟨a1,a2⟩:=ok.ros i B f ho hl hr
  refine ⟨fun hc=>?_,Nat.lt_of_lt_of_le a2 ok.ext.size⟩
  rcases ok.mem hc with h|h
  ·exact a1 h
  ·omega,ok.dead,ok.apart,ok.maps,fun i W ms hi=>⟨(ok.past i W ms hi).1,fun B _ h2 h3=>⟨i,W,ms,hi,h2,h3⟩,(ok.past i W ms hi).2.2⟩⟩
theorem HeapOk.unbase {h':List (List Seg)} {r':Rho} {w':World} (ok:HeapOk C h r w) (k:HeapOk (Sx.based C h r w) h' r' w'):HeapOk C h' r' w' :=
 ⟨ok.ext.trans2 k.ext (fun i hi=>ok.mem hi),ok.agree.trans k.agree,ok.rol,k.len,k.chunks,k.lt,fun i B f ho hr=>by
  rcases k.own i B f ho hr with h1|h1
  ·exact ok.mem h1
  ·exact .inr (Nat.le_trans ok.ext.size h1),fun i B f ho hl hr=>by
  have hir:i<r.length:=by have:=ok.rol; have:=ok.rlen; omega
  have e:=k.agree i _ (List.getElem?_eq_getElem hir)
  rw [hr] at e
  injection e with e
  exact ok.ros i B f ho hl (by rw [List.getElem?_eq_getElem hir,← e]),k.dead,k.apart,k.maps,fun i W ms hi=>by
  obtain ⟨p1,p2,p3⟩:=k.past i W ms hi
  refine ⟨p1,fun B h1 h2 h3=>?_,p3⟩
  obtain ⟨j,W',ms',e,g1,g2⟩:=p2 B (Nat.lt_of_lt_of_le h1 ok.ext.size) h2 h3
  exact (ok.past j W' ms' e).2.1 B h1 g1 g2⟩
theorem HeapOk.raw (ok:HeapOk C h r w) (b:Addr) (l:List SC) (hr:RawAt C h b l):RawAt (Sx.based C h r w) h b l:=by
 rcases hr with ⟨h1,h2,h3,h4⟩|hr
 rotate_left
 ·exact .inr hr
 refine .inl ⟨h1,Nat.lt_of_lt_of_le h2 ok.ext.size,fun hc=>?_,fun j x e=>?_⟩
 ·rcases ok.mem hc with h|h
  ·exact h3 h
  ·omega
 ·obtain ⟨v,e1,e2⟩:=h4 j x e
  exact ⟨v,ok.ext.cell (p:=⟨b.block,b.off+j,none⟩) h3 e1,e2⟩
theorem Near.refl (ok:HeapOk C h r w) (l:List Nat):Near C h r l w w:=⟨ok.ext,fun _ _ _ _ _ _ _=>rfl,fun i W ms e=>(ok.past i W ms e).1⟩
theorem Stand.of_quiet {q:Keep} {w':World} (ok:HeapOk C h r w) (e:Ext [] w w'):Stand C q h r w w':=by
 cases q with
 | free=>trivial
 | all=>exact e
 | only l=>exact ⟨ok.ext.quiet e,fun i _ _ B f hr hB=>e.block B hB (by simp),fun i W ms e'=>(ok.past i W ms e').1.quiet e⟩
theorem Frm.of (ok:HeapOk C h r w) {q:Keep} {h':List (List Seg)} {r':Rho} {w':World} (k:HeapOk (based C h r w) h' r' w') (e:q.binds=true→Ext [] w w') (kk:q.binds=true→Keeps h h'):Frm C q h r w h' r' w' :=
 ⟨k.ext,k.own,by
  cases q with
  | free=>trivial
  | all=>exact e rfl
  | only l=>exact Stand.of_quiet (q:=.only l) ok (e rfl),kk,fun i W ms hi=>(k.past i W ms hi).2.1⟩
theorem Frm.refl (ok:HeapOk C h r w) (q:Keep):Frm C q h r w h r w :=
 ⟨Ext.refl _ _,fun i B f ho h=>.inl (mem_drop.2 ⟨i,f,ho,h⟩),Stand.of_quiet ok (Ext.refl _ _),fun _=>Keeps.refl _,fun i W ms hi B _ h2 h3=>⟨i,W,ms,hi,h2,h3⟩⟩
theorem getH_some {i:Nat} (h1:getH h i≠[]):h[i]?=some (getH h i):=by
 rw [getH_eq] at h1 ⊢
 cases e:h[i]? with
 | none=>rw [e] at h1; exact absurd rfl h1
 | some c=>rfl
theorem aptN_spec {h:List (List Seg)} {i:Nat}:∀ {l:List Nat},aptN h i l=true→∀ j∈l,j<h.length→j≠i∧getH h j≠[]
 | [],_,j,hj,_=>by cases hj
 | x::l,hh,j,hj,hl=>by
  simp only [aptN,Bool.and_eq_true] at hh
  cases hj with
  | tail _ hj=>exact aptN_spec hh.2 j hj hl
  | head =>
   have h1:=hh.1
   split at h1
   ·simp only [Bool.and_eq_true,Bool.not_eq_true'] at h1
    refine ⟨fun hc=>?_,fun e=>?_⟩
    ·subst hc
     have:=h1.1
     rw [Nat.beq_refl] at this
     cases this
    ·rw [e] at h1
     exact absurd h1.2 (by simp)
   ·rename_i hb
    have:=Nat.ble_eq_true_of_le hl
    rw [show (Nat.succ _).ble h.length=Nat.blt _ h.length from rfl] at this
    rw [this] at hb
    cases hb
def marked (w:World) (B:Nat):World:=match w.shape? B with
 | some (_,n)=>w.freeze ⟨B,n,none⟩ 1
 | none=>w
theorem marked_ne (w:World) {B k:Nat} (h:k≠B):(marked w B).heap[k]?=w.heap[k]?:=by
 unfold marked
 split
 ·unfold World.freeze
  rw [if_neg (by decide)]
  simp only [Array.getElem?_modify,if_neg (Ne.symm h)]
 ·rfl
theorem marked_size (w:World) (B:Nat):(marked w B).heap.size=w.heap.size:=by
 unfold marked
 split
 ·unfold World.freeze
  rw [if_neg (by decide)]
  simp
 ·rfl
theorem marked_at (w:World) (B:Nat) {c:Array Value} {t:TypeId} {lo hi:Nat} (h:w.heap[B]?=some (.cells c t (lo,hi))) :
  (marked w B).heap[B]?=some (.cells c t (if lo == hi then (c.size,c.size+1) else (min lo c.size,max hi (c.size+1)))):=by
 have hs:w.shape? B=some (t,c.size):=by unfold World.shape?; rw [h]
 unfold marked
 rw [hs]
 simp only
 unfold World.freeze
 rw [if_neg (by decide)]
 simp [Array.getElem?_modify,h]
theorem marked_none (w:World) (B:Nat) (h:∀ c t z,w.heap[B]?≠some (.cells c t z)):marked w B=w:=by
 unfold marked World.shape?
 cases e:w.heap[B]? with
 | none=>rfl
 | some x =>
  cases x with
  | cells c t z=>exact absurd e (h c t z)
  | _=>rfl
theorem marked_cases (w:World) (B:Nat):marked w B=w∨∃ c t lo hi,w.heap[B]?=some (.cells c t (lo,hi)):=by
 by_cases h:∃ c t z,w.heap[B]?=some (.cells c t z)
 ·obtain ⟨c,t,⟨lo,hi⟩,e⟩:=h
  exact .inr ⟨c,t,lo,hi,e⟩
 ·exact .inl (marked_none w B fun c t z e=>h ⟨c,t,z,e⟩)
theorem marked_cell (w:World) (B:Nat) (a:Addr):(marked w B).cell? a=w.cell? a:=by
 by_cases hb:a.block=B
 ·rcases marked_cases w B with e|⟨c,t,lo,hi,e⟩
  ·rw [e]
  ·unfold World.cell?
   rw [hb,marked_at w B e,e]
 ·unfold World.cell?
  rw [marked_ne w hb]
theorem Clean.marked (hm:marksOk=true) {w:World} {B k:Nat} (h:Clean w k):Clean (marked w B) k:=by
 by_cases hk:k=B
 ·subst hk
  rcases marked_cases w k with e|⟨c,t,lo,hi,e⟩
  ·rw [e]; exact h
  ·intro c' t' lo' hi' e'
   rw [marked_at w k e] at e'
   injection e' with e'
   injection e' with e1 e2 e3
   subst e1
   refine .inr ⟨hm,?_⟩
   split at e3
   ·injection e3 with e4 e5; omega
   ·rename_i hne
    injection e3 with e4 e5
    have hne:lo≠hi:=by simpa using hne
    rcases h c t lo hi e with h1|⟨_,h1⟩
    ·exact absurd h1 hne
    ·omega
 ·exact h.block (marked_ne w hk)
theorem ext_marked {m:List Nat} {w w':World} {B:Nat} (e:Ext m w w') (h:B∈m∨w.heap.size≤B):Ext m w (marked w' B) :=
 ⟨by unfold Sx.marked; split <;> (try unfold World.freeze) <;> exact e.os,by unfold Sx.marked; split <;> (try unfold World.freeze) <;> exact e.tape,by unfold Sx.marked; split <;> (try unfold World.freeze) <;> exact e.output,by rw [marked_size]; exact e.size,fun k hk hm=>by
  rw [marked_ne w' (fun hc=>by subst hc; rcases h with h|h; exact hm h; omega)]
  exact e.block k hk hm⟩
theorem ObjAt.marked {B:Nat} {m:MapD} (h:ObjAt w B m) (B2:Nat):ObjAt (Sx.marked w B2) B m:=by
 by_cases hB:B=B2
 ·subst hB
  obtain ⟨o,e1,e2⟩:=h.obj
  have:w.shape? B=none:=by
   unfold World.shape?
   rw [e1]
   cases o <;> first|rfl|exact absurd rfl (e2 _ _ _)
  unfold Sx.marked
  rw [this]
  exact h
 ·exact h.block (marked_ne w hB)
theorem HeapOk.marked (hm:marksOk=true) (ok:HeapOk C h r w) {i B f:Nat} (hr:r[i]?=some (B,f)) (hro:C.ro≤i):HeapOk C h r (Sx.marked w B) :=
 ⟨ext_marked ok.ext (ok.own i B f hro hr),ok.agree,ok.rol,ok.len,fun j ch B' f' hj hrj q x e=>by
  obtain ⟨v,e1,e2,e3⟩:=ok.chunks j ch B' f' hj hrj q x e
  exact ⟨v,by rw [marked_cell]; exact e1,e2,fun hz=>(e3 hz).marked hm⟩,fun j B' f' ho hrj=>by rw [marked_size]; exact ok.lt j B' f' ho hrj,ok.own,ok.ros,ok.dead,ok.apart,fun j m B' f' ho hj hrj=>(ok.maps j m B' f' ho hj hrj).marked B,fun j W ms hj=>by
  obtain ⟨p1,p2,p3⟩:=ok.past j W ms hj
  refine ⟨ext_marked p1 ?_,p2,p3⟩
  rcases Nat.lt_or_ge B W.heap.size with h|h
  ·exact .inl (p3 i B f hro hr h)
  ·exact .inr h⟩
theorem run_mark {P:Program} (w:World) (t e:TypeId) (B o n c:Nat) (ht:P.underlying t=some (.slice e)) (he:P.underlying e=some (.int .u8)) :
  (convert t t (.slice (some ⟨B,o,none⟩) n c)).run P w=.ok (.slice (some ⟨B,o,none⟩) n c) (Sx.marked w B):=by
 unfold Sx.marked
 cases hs:w.shape? B with
 | none=>simp [convert,run_underlying ht,run_underlying he,markStringish,hs]
 | some x=>simp [convert,run_underlying ht,run_underlying he,markStringish,hs]
theorem step_sound {o:Oper} {q:Keep} {k:SV→List (List Seg)→Prop} (hT:AllT C.P C.T) (ok:Ok C ⟨t,h⟩ r a w) (hk:step C q o t h k) {next:Act→World→Prop} {Q:Exit→Act→World→Prop}
  (hn:∀ v x h' r' w',x.Is r' v→RLe r r'→HeapOk C h' r' w'→Frm C q h r w h' r' w'→k x h'→next (a.put o.dst v) w'):o.wp C.P a w next Q:=by
 unfold step at hk
 have okB:Ok (based C h r w) ⟨t,h⟩ r a w:=⟨ok.heap.based,ok.size,ok.slots,ok.defers⟩
 split at hk
 ·split at hk
  ·split at hk
   ·rename_i hnil
    obtain ⟨v,x,h',r',w',h1,h2,h3,h4',⟨m,hext,hm⟩,hkp,h6⟩:=stepC_sound (C:=(based C h r w)) hT okB (stepC_mono ok.heap.raw hk)
    have h4:=ok.heap.unbase h4'
    have hx:Frm C q h r w h' r' w':=Frm.of ok.heap h4' (fun _=>⟨hext.os,hext.tape,hext.output,hext.size,fun B hB _=>hext.block B hB fun hBm=>by
     obtain ⟨y,ht,hb⟩:=hm B hBm
     unfold tgtNil at hnil
     rw [ht] at hnil
     have hv:=ok.ev y
     simp only at hnil
     split at hnil
     ·rename_i n' c' e
      simp only [e] at hv
      rw [show a.eval y=_ from hv] at hb
      cases hb
     ·cases hnil⟩) (fun _=>hkp)
    unfold Oper.wp
    rcases h6 o rfl with e|⟨e,rfl⟩
    ·rw [e]; exact hn v x h' r' w' h2 h3 h4 hx h1
    ·rw [e]; exact hn undef x h' r' w' h2 h3 h4 hx h1
   split at hk <;> try exact hk.elim
   rename_i l i0 htg _
   split at hk <;> try exact hk.elim
   rename_i hok
   obtain ⟨v,x,h',r',w',h1,h2,h3,h4',⟨m,hext,hm⟩,hkp,h6⟩:=stepC_sound (C:=(based C h r w)) hT okB (stepC_mono ok.heap.raw hk)
   have h4:=ok.heap.unbase h4'
   have hx:Frm C (.only l) h r w h' r' w':=⟨h4'.ext,h4'.own,⟨h4.ext,fun i hi ho B f hr hB=>hext.block B hB fun hBm=>by
    obtain ⟨y,ht,hb⟩:=hm B hBm
    simp only [tgtOk,Bool.and_eq_true] at hok
    obtain ⟨⟨o1,o2⟩,o3⟩:=hok
    have hne0:getH h i0≠[]:=fun e=>by rw [e] at o2; cases o2
    have hil:i<h.length:=by
     rw [← ok.heap.len]
     rcases Nat.lt_or_ge i r.length with h|h
     ·exact h
     ·rw [List.getElem?_eq_none h] at hr; cases hr
    obtain ⟨hij,hne⟩:=aptN_spec o3 i hi hil
    have h0:∃ f0,r[i0]?=some (B,f0):=by
     unfold tgtN at htg
     rw [ht] at htg
     have hv:=ok.ev y
     simp only at htg
     split at htg
     ·rename_i j b' o' e
      simp only [e] at hv
      obtain ⟨B',f',hr',hv⟩:=hv
      injection htg with htg
      subst htg
      rw [show a.eval y=_ from hv] at hb
      injection hb with hb
      subst hb
      exact ⟨f',hr'⟩
     ·rename_i j b' o' n' c' e
      simp only [e] at hv
      obtain ⟨B',f',hr',hv⟩:=hv
      injection htg with htg
      subst htg
      rw [show a.eval y=_ from hv] at hb
      injection hb with hb
      subst hb
      exact ⟨f',hr'⟩
     ·rename_i j e
      simp only [e] at hv
      obtain ⟨B',f',hr',hv⟩:=hv
      injection htg with htg
      subst htg
      rw [show a.eval y=_ from hv] at hb
      injection hb with hb
      subst hb
      exact ⟨f',hr'⟩
     ·rename_i j e
      simp only [e] at hv
      obtain ⟨B',f',hr',hv⟩:=hv
      injection htg with htg
      subst htg
      rw [show a.eval y=_ from hv] at hb
      injection hb with hb
      subst hb
      exact ⟨f',hr'⟩
     ·cases htg
    obtain ⟨f0,hr0⟩:=h0
    have g1:h[i]?=some (getH h i):=getH_some hne
    have g0:h[i0]?=some (getH h i0):=getH_some hne0
    rcases ok.heap.apart i i0 B f f0 _ _ hij ho (ble_le o1) g1 g0 hr hr0 with h|h
    ·exact hne h
    ·exact hne0 h,fun i W ms e=>let ⟨_,_,e2,hl⟩:=hkp i W ms e; hl.ext (h4.past i _ _ e2).1⟩,fun _=>hkp,fun i W ms hi=>(h4'.past i W ms hi).2.1⟩
   unfold Oper.wp
   rcases h6 o rfl with e|⟨e,rfl⟩
   ·rw [e]; exact hn v x h' r' w' h2 h3 h4 hx h1
   ·rw [e]; exact hn undef x h' r' w' h2 h3 h4 hx h1
  ·rename_i hq
   obtain ⟨v,x,h',r',w',h1,h2,h3,h4',h5,hkp,h6⟩:=stepC_sound (C:=(based C h r w)) hT okB (stepC_mono ok.heap.raw hk)
   have h4:=ok.heap.unbase h4'
   have hx:Frm C q h r w h' r' w':=Frm.of ok.heap h4' (fun e=>h5.quiet (by rw [e] at hq; simpa using hq)) (fun _=>hkp)
   unfold Oper.wp
   rcases h6 o rfl with e|⟨e,rfl⟩
   ·rw [e]; exact hn v x h' r' w' h2 h3 h4 hx h1
   ·rw [e]; exact hn undef x h' r' w' h2 h3 h4 hx h1
 ·rename_i hch
  have read:stepR C o.op t h (fun x=>k x h)→o.wp C.P a w next Q:=by
   intro hk
   obtain ⟨v,x,h1,h2,h3⟩:=stepR_sound hT ok hk
   unfold Oper.wp
   rw [h3 o w rfl (fun _=>Near.refl ok.heap _)]
   exact hn v x h r w h2 (RLe.refl _) ok.heap (Frm.refl ok.heap q) h1
  split at hk
  ·rename_i f args ts hop
   have enter:∀ {g:FuncId} {first cap:Array Value},a.eval f=.func (.func g) first cap→callable C.P g=true→(execOp a.eval o).run C.P w=.ok (.enter g (first++(args.toList.map a.eval).toArray++cap)) w:=by
    intro g first cap hv hc
    obtain ⟨fn, hfn, hb⟩ : ∃ fn, C.P.funcs[g]? = some fn ∧ (fn.body.isSome && fn.name != "runtime.NumGoroutine") = true := by
     unfold callable at hc
     cases e:C.P.funcs[g]? with
     | none=>rw [e] at hc; cases hc
     | some fn=>rw [e] at hc; exact ⟨fn,rfl,hc⟩
    simp only [Bool.and_eq_true,bne_iff_ne] at hb
    simp only [execOp,hop,resolve,hv,Deferred.ofValue,Sem.run_bind,Sem.run_pure,Result.andThen_ok,invoke,callFunc,run_program,hfn]
    have h1 : (fn.name == "runtime.NumGoroutine") = false := by simpa using hb.2
    have h2:fn.body.isNone=false:=by
     cases e:fn.body with
     | none=>rw [e] at hb; exact absurd hb.1 (by simp)
     | some b=>rfl
    simp only [h1,h2,Bool.false_eq_true,if_false]
    have h3:args.map a.eval=(args.toList.map a.eval).toArray:=by rw [← Array.toList_map]
    rw [h3]; rfl
   split at hk <;> try exact hk.elim
   ·rename_i g first cap hf
    obtain ⟨hc,hk⟩:=hk
    obtain ⟨l,hk,hl⟩:=evs_spec ok hk
    have hv:=ok.ev f
    simp only [hf] at hv
    have hv:a.eval f=.func (.func g) first cap:=hv
    have hcall:=hk r a w _ ok hl
    unfold Oper.wp
    rw [enter hv hc]
    refine hcall.mono ?_
    rintro e' w' ⟨v,x,h',r',rfl,h1,h2,h3,h4,h5⟩
    exact hn v x h' r' w' h1 h2 h3 h4 h5
   ·rename_i g i b' o' hf
    obtain ⟨hc,hk⟩:=hk
    obtain ⟨l,hk,hl⟩:=evs_spec ok hk
    have hv:=ok.ev f
    simp only [hf] at hv
    obtain ⟨B,f',hr,hv⟩:=hv
    have hcall:=hk r a w (.pointer (some ⟨B,f'+(b'+o'),none⟩)::args.toList.map a.eval) ok ⟨by simpa using hl.1,fun j x e=>by
     cases j with
     | zero=>simp at e; subst e; exact ⟨_,rfl,B,f',hr,rfl⟩
     | succ j=>exact hl.2 j x e⟩
    have hargs:(#[]:Array Value)++(Value.pointer (some ⟨B,f'+(b'+o'),none⟩)::args.toList.map a.eval).toArray++#[]=#[.pointer (some ⟨B,f'+(b'+o'),none⟩)]++(args.toList.map a.eval).toArray++#[]:=by simp
    rw [hargs] at hcall
    unfold Oper.wp
    rw [enter hv hc]
    refine hcall.mono ?_
    rintro e' w' ⟨v,x,h',r',rfl,h1,h2,h3,h4,h5⟩
    exact hn v x h' r' w' h1 h2 h3 h4 h5
   ·rename_i g i b' o' hf
    obtain ⟨hc,hk⟩:=hk
    obtain ⟨l,hk,hl⟩:=evs_spec ok hk
    rw [snocL_eq] at hk
    have hv:=ok.ev f
    simp only [hf] at hv
    obtain ⟨B,f',hr,hv⟩:=hv
    have hcall:=hk r a w (args.toList.map a.eval++[.pointer (some ⟨B,f'+(b'+o'),none⟩)]) ok (isAs_snoc hl ⟨B,f',hr,rfl⟩)
    have hargs:(#[]:Array Value)++(args.toList.map a.eval++[Value.pointer (some ⟨B,f'+(b'+o'),none⟩)]).toArray++#[]=#[]++(args.toList.map a.eval).toArray++#[.pointer (some ⟨B,f'+(b'+o'),none⟩)]:=by simp
    rw [hargs] at hcall
    unfold Oper.wp
    rw [enter hv hc]
    refine hcall.mono ?_
    rintro e' w' ⟨v,x,h',r',rfl,h1,h2,h3,h4,h5⟩
    exact hn v x h' r' w' h1 h2 h3 h4 h5
   ·rename_i g i b' o' j c' p' hf
    obtain ⟨hc,hk⟩:=hk
    obtain ⟨l,hk,hl⟩:=evs_spec ok hk
    rw [snocL_eq,snocL_eq] at hk
    have hv:=ok.ev f
    simp only [hf] at hv
    obtain ⟨B,f',hr,B2,f2,hr2,hv⟩:=hv
    have hcall:=hk r a w ((args.toList.map a.eval++[.pointer (some ⟨B,f'+(b'+o'),none⟩)])++[.pointer (some ⟨B2,f2+(c'+p'),none⟩)]) ok (isAs_snoc (isAs_snoc hl ⟨B,f',hr,rfl⟩) ⟨B2,f2,hr2,rfl⟩)
    have hargs:(#[]:Array Value)++((args.toList.map a.eval++[Value.pointer (some ⟨B,f'+(b'+o'),none⟩)])++[Value.pointer (some ⟨B2,f2+(c'+p'),none⟩)]).toArray++#[]=#[]++(args.toList.map a.eval).toArray++#[.pointer (some ⟨B,f'+(b'+o'),none⟩),.pointer (some ⟨B2,f2+(c'+p'),none⟩)]:=by simp
    rw [hargs] at hcall
    unfold Oper.wp
    rw [enter hv hc]
    refine hcall.mono ?_
    rintro e' w' ⟨v,x,h',r',rfl,h1,h2,h3,h4,h5⟩
    exact hn v x h' r' w' h1 h2 h3 h4 h5
  ·rename_i u v' y hop
   obtain ⟨du,hu,hk⟩:=td_spec hT hk
   obtain ⟨dv,hv,hk⟩:=td_spec hT hk
   split at hk
   ·obtain ⟨v,x,h',r',w',h1,h2,h3,h4',h5,hkp,h6⟩:=stepC_sound (C:=(based C h r w)) hT okB (stepC_mono ok.heap.raw hk)
    have h4:=ok.heap.unbase h4'
    have hx:Frm C q h r w h' r' w':=Frm.of ok.heap h4' (fun _=>h5.quiet rfl) (fun _=>hkp)
    unfold Oper.wp
    rcases h6 o hop with e|⟨e,rfl⟩
    ·rw [e]; exact hn v x h' r' w' h2 h3 h4 hx h1
    ·rw [e]; exact hn undef x h' r' w' h2 h3 h4 hx h1
   ·rename_i e1 e ek1 ek2
    split at hk <;> try exact hk.elim
    obtain ⟨de,hde,hk⟩:=td_spec hT hk
    split at hk <;> try exact hk.elim
    rename_i i b o' n c ek3 huv hx
    split at hk <;> try exact hk.elim
    all_goals
     rename_i hro _ hmk
     have hk9:=hk
     clear hk
     obtain rfl:u=v':=Nat.eq_of_beq_eq_true huv
     have k1:=hu.kind
     have k2:=hde.kind
     have k3:=hv.kind
     rw [ek2] at k3
     rw [ek3] at k2
     simp only [TK.Ok] at k2 k3
     have hev:=ok.ev y
     simp only [hx] at hev
     obtain ⟨B,f,hr,hev⟩:=hev
     have h4':=HeapOk.marked hmk ok.heap.based hr (ble_le hro)
     unfold Oper.wp
     have hrun:=run_mark (P:=C.P) w u _ B (f+(b+o')) n c k3 k2
     have:(execOp a.eval o).run C.P w=.ok (.value (.slice (some ⟨B,f+(b+o'),none⟩) n c)) (Sx.marked w B):=by
      simp only [execOp,hop]
      rw [show a.eval y=_ from hev]
      exact exec_v hrun
     rw [this]
     exact hn _ (.a (.c (.sl i b o' n c))) h r _ ⟨B,f,hr,rfl⟩ (RLe.refl _) (ok.heap.unbase h4') (Frm.of ok.heap h4' (fun hc=>Bool.noConfusion hc) (fun _=>Keeps.refl _)) hk9
   ·exact read (by rw [hop]; exact hk)
  ·exact read hk
theorem guard_spec {ops:Array Oper} {o:Oper} {yes no:Prop} (ok:Ok C ⟨t,h⟩ r a w) (hk:guard ops o t yes no) :
  (Region.wanted o (yielded ops a.tmps)=true∧yes)∨(Region.wanted o (yielded ops a.tmps)=false∧no):=by
 unfold guard at hk
 split at hk
 ·rename_i hg
  exact .inl ⟨by simp [Region.wanted,hg],hk⟩
 ·rename_i j want hg
  split at hk <;> try exact hk.elim
  rename_i d hd
  have hs:=ok.get d
  have ey:∀ (b:Bool),a.tmps.getD d undef=.bool b→yielded ops a.tmps j=some b:=by
   intro b hb
   unfold dstOf at hd
   have:a.tmps[d]?=some (.bool b):=by
    rw [Array.getD_eq_getD_getElem?] at hb
    cases e:a.tmps[d]? with
    | none=>rw [e] at hb; cases hb
    | some v=>rw [e] at hb; simp at hb; rw [hb]
   simp only [yielded,hd,Option.bind_some,this]
  split at hk <;> try exact hk.elim
  ·rename_i b e
   simp only [e] at hs
   have hy:=ey b hs
   cases want <;> cases b <;> simp only [Region.wanted,hg,hy] <;> simp at hk ⊢ <;> exact hk
  ·rename_i e
   simp only [e] at hs
   obtain ⟨vs,e1,e2,_⟩:=hs
   have:vs=[]:=List.eq_nil_of_length_eq_zero e2.symm
   subst this
   refine .inr ⟨?_,hk⟩
   have:yielded ops a.tmps j=none:=by
    unfold dstOf at hd
    simp only [yielded,hd,Option.bind_some]
    rw [Array.getD_eq_getD_getElem?] at e1
    cases e:a.tmps[d]? with
    | none=>rfl
    | some v=>rw [e] at e1; simp at e1; subst e1; rfl
   simp [Region.wanted,hg,this]
def putT (d:Option Tmp) (x:SV) (t:List SV):List SV:=match d with
 | some d=>t.set d x
 | none=>t
theorem putD_eq {d:Option Tmp} {x:SV} {t:List SV} {K:List SV→Prop} (hk:putD d x t K):K (putT d x t):=by
 unfold putD at hk
 split at hk
 ·rw [frcV_eq,setT_eq] at hk; exact hk
 ·exact hk
theorem Ok.putT {s:St} {r':Rho} {w':World} {h':List (List Seg)} {x:SV} {v:Value} (ok:Ok C s r a w) (hr:RLe r r') (hh:HeapOk C h' r' w') (hx:x.Is r' v) (d:Option Tmp):Ok C ⟨Sx.putT d x s.t,h'⟩ r' (a.put d v) w':=by
 cases d with
 | none=>exact ok.keep hr hh
 | some d=>exact ok.put hr hh hx d
theorem one_sound {ops:Array Oper} {o:Oper} {q:Keep} {s:St} {K:St→Prop} (hT:AllT C.P C.T) (ok:Ok C s r a w) (hk:one C q ops o s K) {next:Act→World→Prop} {Q:Exit→Act→World→Prop}
  (hn:∀ x v h' r' w',K ⟨putT o.dst x s.t,h'⟩→Ok C ⟨putT o.dst x s.t,h'⟩ r' (a.put o.dst v) w'→RLe r r'→Frm C q s.h r w h' r' w'→next (a.put o.dst v) w') :
  if Region.wanted o (yielded ops a.tmps) then o.wp C.P a w next Q else next (a.put o.dst undef) w:=by
 obtain ⟨t,h⟩:=s
 unfold one at hk
 rcases guard_spec ok hk with ⟨hw,hk⟩|⟨hw,hk⟩
 ·rw [if_pos hw]
  refine step_sound hT ok hk ?_
  intro v x h' r' w' hx hr hh hq hk
  exact hn x v h' r' w' (putD_eq hk) (ok.putT hr hh hx _) hr hq
 ·rw [if_neg (by simp [hw])]
  exact hn _ _ _ _ _ (putD_eq hk) (ok.putT (RLe.refl _) ok.heap (undef_is r) _) (RLe.refl _) (Frm.refl ok.heap q)
theorem one_read {ops:Array Oper} {o:Oper} {s:St} {K:St→Prop} (hT:AllT C.P C.T) (ok:Ok C s r a w) (hk:oneR C ops o s K) :
  ∃ v x,K ⟨putT o.dst x s.t,s.h⟩∧Ok C ⟨putT o.dst x s.t,s.h⟩ r (a.put o.dst v) w∧YieldsIf C.P ops (fun w'=>pureOp o.op=false→Near C s.h r (seen s.t o.op) w w') o v a:=by
 obtain ⟨t,h⟩:=s
 unfold oneR at hk
 rcases guard_spec ok hk with ⟨hw,hk⟩|⟨hw,hk⟩
 ·obtain ⟨v,x,h1,h2,h3⟩:=stepR_sound hT ok hk
  exact ⟨v,x,putD_eq h1,ok.putT (RLe.refl _) ok.heap h2 _,.inl ⟨hw,fun w' hx=>h3 o w' rfl hx⟩⟩
 ·exact ⟨undef,_,putD_eq hk,ok.putT (RLe.refl _) ok.heap (undef_is r) _,.inr ⟨hw,rfl⟩⟩
theorem vcOps_sound {ops:Array Oper} {K:St→Prop} {Q:Exit→Act→World→Prop} (hT:AllT C.P C.T) (hQ:∀ s' r' a' w',K s'→Ok C s' r' a' w'→Q .normal a' w') :
  ∀ {l:List Oper} {s:St} {r:Rho} {a:Act} {w:World},vcOps C ops l s K→Ok C s r a w→wpList C.P ops Q l a w
 | [],_,_,_,_,hk,ok=>hQ _ _ _ _ hk ok
 | _::_,_,_,_,_,hk,ok=>wpList_step fun _ hN=>one_sound hT ok hk fun _ _ _ _ _ h1 h2 _ _=>hN _ _ (vcOps_sound hT hQ h1 h2)
end
end Sx
end
end Go.Proofs.Ytgmbfaefadefjaa
