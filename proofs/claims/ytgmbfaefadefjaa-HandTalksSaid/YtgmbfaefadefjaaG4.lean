/-
  Texts of this claim, part 4: Sxp. No condition of its own.
-/
import Derived.Scope
import Derived.Test.YtgmbfaefadefjaaG3
namespace Go.Proofs.Ytgmbfaefadefjaa
set_option linter.unusedVariables false
section
namespace Sx
open Go.RowKit

def rn (q:List Nat) (r:Rho):Rho:=q.map fun i=>r.getD i (0,0)
section
variable {q : List Nat} {r : Rho}
theorem rn_get (hq:∀ i∈q,i<r.length) {i j:Nat} (h:q[i]?=some j):(rn q r)[i]?=r[j]?:=by
 have hj:=hq j (List.mem_of_getElem? h)
 simp [rn,h,List.getElem?_eq_getElem hj]
theorem nthN_spec:∀ {l:List Nat} {n i:Nat} {k:Prop},nthN l n i k→l[n]?=some i∧k
 | [],_,_,_,h=>h.elim
 | x::l,0,i,k,h=>by
  simp only [nthN] at h
  split at h
  ·rename_i hb; exact ⟨by simp [Nat.eq_of_beq_eq_true hb],h⟩
  ·exact h.elim
 | _::l,n+1,i,k,h=>nthN_spec (l:=l) h
theorem sameN_spec {b b':Nat} {k:Prop} (h:sameN b b' k):b=b'∧k:=by
 unfold sameN at h
 split at h
 ·rename_i hb; exact ⟨Nat.eq_of_beq_eq_true hb,h⟩
 ·exact h.elim
theorem eqC_spec (hq:∀ i∈q,i<r.length) {x y:SC} {k:Prop} (h:eqC q x y k):k∧∀ v,x.Is r v→y.Is (rn q r) v:=by
 have pt:∀ {i i':Nat} {B f:Nat},q[i']?=some i→r[i]?=some (B,f)→(rn q r)[i']?=some (B,f):=fun h1 h2=>by rw [rn_get hq h1,h2]
 unfold eqC at h
 split at h
 ·exact ⟨h,fun v hv=>SC.Is.one hv⟩
 case h_9 =>
  split at h <;> try exact h.elim
  obtain ⟨h1,h⟩:=nthN_spec h
  obtain ⟨hb,h'⟩:=sameN_spec h
  subst hb
  obtain ⟨ho,hk⟩:=h'
  subst ho
  refine ⟨hk,fun v hv=>?_⟩
  obtain ⟨B,f,h2,e⟩:=hv
  exact ⟨B,f,pt h1 h2,e⟩
 case h_10 =>
  split at h <;> try exact h.elim
  obtain ⟨h1,h⟩:=nthN_spec h
  obtain ⟨hb,h'⟩:=sameN_spec h
  subst hb
  obtain ⟨ho,hn,hc,hk⟩:=h'
  subst ho; subst hn; subst hc
  refine ⟨hk,fun v hv=>?_⟩
  obtain ⟨B,f,h2,e⟩:=hv
  exact ⟨B,f,pt h1 h2,e⟩
 case h_11 =>
  split at h <;> try exact h.elim
  exact ⟨h,fun v hv=>hv⟩
 case h_12 =>
  split at h <;> try exact h.elim
  exact ⟨h,fun v hv=>hv⟩
 case h_13 =>
  split at h <;> try exact h.elim
  exact ⟨h,fun v hv=>hv⟩
 case h_14=>obtain ⟨rfl,h⟩:=h; exact ⟨h,fun v hv=>hv⟩
 case h_15=>obtain ⟨rfl,h⟩:=h; exact ⟨h,fun v hv=>hv⟩
 case h_16=>obtain ⟨rfl,h⟩:=h; exact ⟨h,fun v hv=>hv⟩
 case h_17=>obtain ⟨rfl,h⟩:=h; exact ⟨h,fun v hv=>hv⟩
 case h_18=>obtain ⟨rfl,h⟩:=h; exact ⟨h,fun v hv=>hv⟩
 case h_19 =>
  split at h <;> try exact h.elim
  obtain ⟨hf,h⟩:=h
  subst hf
  obtain ⟨h1,h⟩:=nthN_spec h
  obtain ⟨hb,h'⟩:=sameN_spec h
  subst hb
  obtain ⟨ho,hk⟩:=h'
  subst ho
  refine ⟨hk,fun v hv=>?_⟩
  obtain ⟨B,f,h2,e⟩:=hv
  exact ⟨B,f,pt h1 h2,e⟩
 case h_20 =>
  split at h <;> try exact h.elim
  obtain ⟨hf,h⟩:=h
  subst hf
  obtain ⟨h1,h⟩:=nthN_spec h
  obtain ⟨hb,h'⟩:=sameN_spec h
  subst hb
  obtain ⟨ho,hk⟩:=h'
  subst ho
  refine ⟨hk,fun v hv=>?_⟩
  obtain ⟨B,f,h2,e⟩:=hv
  exact ⟨B,f,pt h1 h2,e⟩
 case h_21 =>
  split at h <;> try exact h.elim
  ·obtain ⟨h1,h⟩:=nthN_spec h
   obtain ⟨hb,h'⟩:=sameN_spec h
   subst hb
   obtain ⟨hz,ho,hn,hc,hk⟩:=h'
   subst hz; subst ho; subst hn; subst hc
   refine ⟨hk,fun v hv=>?_⟩
   rcases hv with hv|⟨hz,B,f,h2,e⟩|hv
   ·exact .inl hv
   ·exact .inr (.inl ⟨hz,B,f,pt h1 h2,e⟩)
   ·exact .inr (.inr hv)
  ·obtain ⟨h1,h⟩:=nthN_spec h
   obtain ⟨hb,h'⟩:=sameN_spec h
   subst hb
   obtain ⟨hz,ho,hn,hc,hk⟩:=h'
   subst hz; subst ho; subst hn; subst hc
   refine ⟨hk,fun v hv=>?_⟩
   obtain ⟨B,f,h2,e⟩:=hv
   exact .inr (.inl ⟨rfl,B,f,pt h1 h2,e⟩)
  ·obtain ⟨h1,h2,hz,hn,hc,hk⟩:=h
   subst h1; subst h2; subst hz; subst hn; subst hc
   exact ⟨hk,fun v hv=>.inl ⟨rfl,hv,rfl,rfl⟩⟩
  ·obtain ⟨h1,h2,hz,hn,hc,hk⟩:=h
   subst h1; subst h2; subst hz; subst hn; subst hc
   exact ⟨hk,fun v hv=>.inr (.inr ⟨rfl,rfl,rfl,_,_,_,hv⟩)⟩
 case h_22 =>
  split at h <;> try exact h.elim
  obtain ⟨h1,hk⟩:=nthN_spec h
  refine ⟨hk,fun v hv=>?_⟩
  obtain ⟨B,f,h2,e⟩:=hv
  exact ⟨B,f,pt h1 h2,e⟩
 case h_23 =>
  split at h <;> try exact h.elim
  obtain ⟨h1,hk⟩:=nthN_spec h
  refine ⟨hk,fun v hv=>?_⟩
  obtain ⟨B,f,h2,e⟩:=hv
  exact ⟨B,f,pt h1 h2,e⟩
 case h_24 =>
  split at h <;> try exact h.elim
  obtain ⟨hf,h⟩:=h
  subst hf
  obtain ⟨h1,h⟩:=nthN_spec h
  obtain ⟨hb,h'⟩:=sameN_spec h
  subst hb
  obtain ⟨ho,h'⟩:=h'
  subst ho
  obtain ⟨g1,h3⟩:=nthN_spec h'
  obtain ⟨hc,hp,hk⟩:=sameN_spec h3
  clear h3
  subst hc
  subst hp
  refine ⟨hk,fun v hv=>?_⟩
  obtain ⟨B,f,h2,B',f',h3,e⟩:=hv
  exact ⟨B,f,pt h1 h2,B',f',pt g1 h3,e⟩
 all_goals
  split at h <;> try exact h.elim
  obtain ⟨rfl,h⟩:=h
  exact ⟨h,fun v hv=>hv⟩
theorem eqNil_spec:∀ {l l':List Seg} {k:Prop},eqNil l l' k→l=[]∧l'=[]∧k
 | [],[],_,h=>⟨rfl,rfl,h⟩
 | [],_::_,_,h=>h.elim
 | _::_,[],_,h=>h.elim
 | _::_,_::_,_,h=>h.elim
def Kind (l l':List Seg):Prop:=(∀ m,l'=[.obj m]→l=[.obj m])∧∀ W ms,l'=[.past W ms]→l=[.past W ms]
theorem eqSegs_spec (hq:∀ i∈q,i<r.length):∀ {l l':List Seg} {k:Prop},eqSegs q l l' k→k∧((l=[]→l'=[])∧Kind l l')∧(l.length=l'.length→(flat l).length=(flat l').length)∧∀ (j:Nat) (y:SC),(flat l')[j]?=some y→∃ x,(flat l)[j]?=some x∧∀ v,x.Is r v→y.Is (rn q r) v
 | l,[],k,h=>by
  have h:k:=by cases l <;> first|exact h|(rename_i x _; cases x <;> exact h)
  exact ⟨h,⟨fun _=>rfl,(fun m e=>by cases e),fun W ms e=>by cases e⟩,fun e=>by rw [List.eq_nil_of_length_eq_zero e],fun j y e=>by simp [flat] at e⟩
 | .one x::l,.one y::l',k,h=>by
  obtain ⟨h,h1⟩:=eqC_spec hq (show eqC q x y (eqSegs q l l' k) from h)
  obtain ⟨h,h2,h3,h4⟩:=eqSegs_spec hq h
  refine ⟨h,⟨(fun e=>by cases e),(fun m e=>by cases e),fun W ms e=>by cases e⟩,fun e=>by rw [flat_len_one,flat_len_one,h3 (by simpa using e)],fun j z e=>?_⟩
  cases j with
  | zero=>simp [flat] at e; subst e; exact ⟨x,rfl,h1⟩
  | succ j=>exact h4 j z e
 | .row n f::l,.row m g::l',k,h=>by
  obtain ⟨rfl,h1,h⟩:=(show n=m∧(∀ j,j<m→eqC q (f j) (g j) True)∧eqSegs q l l' k from h)
  obtain ⟨h,h2,h3,h4⟩:=eqSegs_spec hq h
  refine ⟨h,⟨(fun e=>by cases e),(fun m e=>by cases e),fun W ms e=>by cases e⟩,fun e=>by rw [flat_len_row,flat_len_row,h3 (by simpa using e)],fun j z e=>?_⟩
  by_cases hj:j<n
  ·rw [flat_row_lt _ _ _ hj] at e
   injection e with e
   subst e
   exact ⟨f j,by rw [flat_row_lt _ _ _ hj],(eqC_spec hq (h1 j hj)).2⟩
  ·rw [flat_row_ge _ _ _ (by omega)] at e
   obtain ⟨x,hx,hv⟩:=h4 _ z e
   exact ⟨x,by rw [flat_row_ge _ _ _ (by omega)]; exact hx,hv⟩
 | .obj m::l,.obj m'::l',k,h=>by
  obtain ⟨rfl,h2⟩:=(show m=m'∧eqNil l l' k from h)
  clear h
  obtain ⟨rfl,rfl,h⟩:=eqNil_spec h2
  exact ⟨h,⟨(fun e=>by cases e),(fun m2 e=>e),fun W ms e=>by cases e⟩,fun _=>rfl,fun j y e=>by simp [flat] at e⟩
 | .past w ms::l,.past w' ms'::l',k,h=>by
  obtain ⟨⟨rfl,rfl⟩,h2⟩:=(show (w=w'∧ms=ms')∧eqNil l l' k from h)
  clear h
  obtain ⟨rfl,rfl,h⟩:=eqNil_spec h2
  exact ⟨h,⟨(fun e=>by cases e),(fun m e=>by cases e),fun W ms2 e=>e⟩,fun _=>rfl,fun j y e=>by simp [flat] at e⟩
 | [],.one _::_,_,h=>h.elim
 | [],.row ..::_,_,h=>h.elim
 | [],.obj _::_,_,h=>h.elim
 | [],.past _ _::_,_,h=>h.elim
 | .one _::_,.row ..::_,_,h=>h.elim
 | .row ..::_,.one _::_,_,h=>h.elim
 | .one _::_,.obj _::_,_,h=>h.elim
 | .one _::_,.past _ _::_,_,h=>h.elim
 | .row ..::_,.obj _::_,_,h=>h.elim
 | .row ..::_,.past _ _::_,_,h=>h.elim
 | .obj _::_,.one _::_,_,h=>h.elim
 | .obj _::_,.row ..::_,_,h=>h.elim
 | .obj _::_,.past _ _::_,_,h=>h.elim
 | .past _ _::_,.one _::_,_,h=>h.elim
 | .past _ _::_,.row ..::_,_,h=>h.elim
 | .past _ _::_,.obj _::_,_,h=>h.elim
theorem eqA_spec (hq:∀ i∈q,i<r.length) {x y:SA} {k:Prop} (h:eqA q x y k):k∧∀ v,x.Is r v→y.Is (rn q r) v:=by
 unfold eqA at h
 split at h
 ·exact eqC_spec hq h
 ·obtain ⟨hl,h⟩:=h
  obtain ⟨h,_,h3,h4⟩:=eqSegs_spec hq h
  refine ⟨h,fun v hv=>?_⟩
  obtain ⟨vs,e,hv⟩:=hv
  refine ⟨vs,e,by rw [← h3 hl,hv.1],fun j y e'=>?_⟩
  obtain ⟨z,hz,hzv⟩:=h4 j y e'
  obtain ⟨u,e1,e2⟩:=hv.2 j z hz
  exact ⟨u,e1,hzv u e2⟩
 ·exact h.elim
theorem eqL_spec (hq:∀ i∈q,i<r.length):∀ {l l':List SA} {k:Prop},eqL q l l' k→k∧l.length=l'.length∧∀ (j:Nat) (y:SA),l'[j]?=some y→∃ x,l[j]?=some x∧∀ v,SA.Is r x v→SA.Is (rn q r) y v
 | [],[],k,h=>⟨h,rfl,fun j y e=>by simp at e⟩
 | x::l,y::l',k,h=>by
  obtain ⟨h,h1⟩:=eqA_spec hq (show eqA q x y (eqL q l l' k) from h)
  obtain ⟨h,h2,h3⟩:=eqL_spec hq h
  refine ⟨h,by simp [h2],fun j z e=>?_⟩
  cases j with
  | zero=>simp at e; subst e; exact ⟨x,rfl,h1⟩
  | succ j=>exact h3 j z e
 | [],_::_,_,h=>h.elim
 | _::_,[],_,h=>h.elim
theorem eqV_spec (hq:∀ i∈q,i<r.length) {x y:SV} {k:Prop} (h:eqV q x y k):k∧∀ v,x.Is r v→y.Is (rn q r) v:=by
 unfold eqV at h
 split at h
 ·exact ⟨h,fun v _=>trivial⟩
 ·split at h
  ·exact eqA_spec hq h
  ·exact h.elim
 ·split at h
  ·obtain ⟨h,h2,h3⟩:=eqL_spec hq h
   refine ⟨h,fun v hv=>?_⟩
   obtain ⟨vs,e,hl,hv⟩:=hv
   refine ⟨vs,e,by rw [← h2,hl],fun j y e'=>?_⟩
   obtain ⟨x,hx,hxv⟩:=h3 j y e'
   obtain ⟨u,e1,e2⟩:=hv j x hx
   exact ⟨u,e1,hxv u e2⟩
  ·exact h.elim
theorem entT_spec (hq:∀ i∈q,i<r.length):∀ {l l':List SV} {k:Prop},entT q l l' k→k∧l.length=l'.length∧∀ (d:Nat) (y:SV),l'[d]?=some y→∃ x,l[d]?=some x∧∀ v,x.Is r v→y.Is (rn q r) v
 | [],[],k,h=>⟨h,rfl,fun d y e=>by simp at e⟩
 | x::l,y::l',k,h=>by
  obtain ⟨h,h1⟩:=eqV_spec hq (show eqV q x y (entT q l l' k) from h)
  obtain ⟨h,h2,h3⟩:=entT_spec hq h
  refine ⟨h,by simp [h2],fun d z e=>?_⟩
  cases d with
  | zero=>simp at e; subst e; exact ⟨x,rfl,h1⟩
  | succ d=>exact h3 d z e
 | [],_::_,_,h=>h.elim
 | _::_,[],_,h=>h.elim
theorem entH_spec (hq:∀ i∈q,i<r.length) (h:List (List Seg)):∀ {is:List Nat} {l:List (List Seg)} {k:Prop},entH q h is l k→k∧is.length=l.length∧∀ (d:Nat) (ch:List Seg) (i:Nat),l[d]?=some ch→is[d]?=some i→((getH h i=[]→ch=[])∧Kind (getH h i) ch)∧∀ (j:Nat) (y:SC),(flat ch)[j]?=some y→∃ x,(flat (getH h i))[j]?=some x∧∀ v,x.Is r v→y.Is (rn q r) v
 | [],[],k,hk=>⟨hk,rfl,fun d ch i e=>by simp at e⟩
 | i::is,l::ls,k,hk=>by
  obtain ⟨hk,h1,_,h2⟩:=eqSegs_spec hq (show eqSegs q (getH h i) l (entH q h is ls k) from hk)
  obtain ⟨hk,h3,h4⟩:=entH_spec hq h hk
  refine ⟨hk,by simp [h3],fun d ch i' e1 e2=>?_⟩
  cases d with
  | zero=>simp at e1 e2; subst e1; subst e2; exact ⟨h1,h2⟩
  | succ d=>exact h4 d ch i' e1 e2
 | [],_::_,_,hk=>hk.elim
 | _::_,[],_,hk=>hk.elim
end
theorem allLt_spec:∀ {q:List Nat} {n:Nat},allLt q n=true→∀ i∈q,i<n
 | [],_,_,i,hi=>by cases hi
 | x::q,n,h,i,hi=>by
  simp only [allLt] at h
  split at h
  ·rename_i hb
   cases hi with
   | head=>simpa using Nat.blt_eq ▸ hb
   | tail _ hi=>exact allLt_spec h i hi
  ·cases h
theorem notIn_spec:∀ {x:Nat} {q:List Nat},notIn x q=true→x ∉ q
 | _,[],_,h=>by cases h
 | x,y::q,hn,h=>by
  simp only [notIn] at hn
  split at hn
  ·cases hn
  ·rename_i hb
   cases h with
   | head=>simp at hb
   | tail _ h=>exact notIn_spec hn h
theorem nodup_spec:∀ {q:List Nat},nodup q=true→q.Nodup
 | [],_=>List.nodup_nil
 | x::q,h=>by
  simp only [nodup] at h
  split at h
  ·rename_i hn
   exact List.nodup_cons.2 ⟨notIn_spec hn,nodup_spec h⟩
  ·cases h
theorem in_of_notIn:∀ {x:Nat} {q:List Nat},notIn x q=false→x∈q
 | _,[],h=>by cases h
 | x,y::q,h=>by
  simp only [notIn] at h
  split at h
  ·rename_i hb
   rw [Nat.eq_of_beq_eq_true hb]
   exact List.mem_cons_self
  ·exact List.mem_cons_of_mem _ (in_of_notIn h)
theorem nodupE_spec {ro:Nat}:∀ {q sn:List Nat} {hs:List (List Seg)},nodupE ro sn q hs=true →
  (∀ (i j x:Nat),q[i]?=some x→q[j]?=some x→i<j→ro≤x∧hs[j]?=some [])∧∀ (i x:Nat),q[i]?=some x→x∈sn→ro≤x∧hs[i]?=some []
 | [],_,_,_=>⟨fun i j x e=>by simp at e,fun i x e=>by simp at e⟩
 | y::q,sn,hs,h=>by
  have tl:∀ j,hs.tail[j]?=hs[j+1]?:=fun j=>by cases hs <;> simp
  simp only [nodupE] at h
  split at h
  ·rename_i hn
   obtain ⟨h1,h2⟩:=nodupE_spec h
   refine ⟨fun i j x ei ej hij=>?_,fun i x ei hx=>?_⟩
   ·obtain ⟨j,rfl⟩:∃ k,j=k+1:=⟨j-1,by omega⟩
    rw [← tl]
    cases i with
    | zero=>simp at ei; subst ei; exact h2 j _ (by simpa using ej) (by simp)
    | succ i=>exact h1 i j x (by simpa using ei) (by simpa using ej) (by omega)
   ·cases i with
    | zero=>simp at ei; subst ei; exact absurd hx (notIn_spec hn)
    | succ i=>rw [← tl]; exact h2 i x (by simpa using ei) (by simp [hx])
  ·rename_i hn
   split at h
   ·rename_i hb hh
    have h0:hs[0]?=some []:=by cases hs with
     | nil=>cases hh
     | cons a l=>simp at hh; simp [hh]
    obtain ⟨h1,h2⟩:=nodupE_spec h
    refine ⟨fun i j x ei ej hij=>?_,fun i x ei hx=>?_⟩
    ·obtain ⟨j,rfl⟩:∃ k,j=k+1:=⟨j-1,by omega⟩
     rw [← tl]
     cases i with
     | zero=>simp at ei; subst ei; exact h2 j _ (by simpa using ej) (in_of_notIn hn)
     | succ i=>exact h1 i j x (by simpa using ei) (by simpa using ej) (by omega)
    ·cases i with
     | zero=>simp at ei; subst ei; exact ⟨ble_le hb,h0⟩
     | succ i=>rw [← tl]; exact h2 i x (by simpa using ei) hx
   ·cases h
theorem pref_spec:∀ {n k:Nat} {q:List Nat},pref n k q=true→∀ i,i<n→q[i]?=some (k+i)
 | 0,_,_,_,i,hi=>by omega
 | n+1,k,x::q,h,i,hi=>by
  simp only [pref] at h
  split at h
  ·rename_i hb
   have hx:=Nat.eq_of_beq_eq_true hb
   cases i with
   | zero=>simp [← hx]
   | succ i=>have:=pref_spec h i (by omega); simp [this]; omega
  ·cases h
 | n+1,k,[],h,i,hi=>by cases h
section
variable {C : Cx}
theorem Ent.okN {q:List Nat} {s s':St} {r:Rho} {a:Act} {w:World} (h:Ent C q s s') (ok:Ok C s r a w):Ok C s' (rn q r) a w:=by
 obtain ⟨⟨h1,h2,h3⟩,h4⟩:=h
 have hlen:=ok.heap.len
 have hq:∀ i∈q,i<r.length:=fun i hi=>by rw [hlen]; exact allLt_spec h3 i hi
 obtain ⟨h4,h5,h6⟩:=entT_spec hq h4
 obtain ⟨_,h7,h8⟩:=entH_spec hq s.h h4
 obtain ⟨hnd,_⟩:=nodupE_spec h2
 have look:∀ (i B f:Nat),(rn q r)[i]?=some (B,f)→∃ j,q[i]?=some j∧r[j]?=some (B,f):=by
  intro i B f e
  cases hi:q[i]? with
  | none=>simp [rn,hi] at e
  | some j=>exact ⟨j,rfl,by rw [← rn_get hq hi]; exact e⟩
 have chunk:∀ j,j<s.h.length→s.h[j]?=some (getH s.h j):=fun j hj=>by rw [getH_eq,List.getElem?_eq_getElem hj]; rfl
 have qpre:∀ i,i<C.ro→q[i]?=some i:=fun i hi=>by
  have:=pref_spec h1 i (Nat.lt_of_lt_of_le hi ok.heap.rol)
  rwa [Nat.zero_add] at this
 have qro:∀ i j,q[i]?=some j→C.ro≤i→C.ro≤j:=fun i j hij ho=>by
  rcases Nat.lt_or_ge j C.ro with h|h
  ·have hj:=qpre j h
   have:=(hnd j i j hj hij (by omega)).1
   omega
  ·exact h
 refine ⟨⟨ok.heap.ext,fun i x e=>?_,ok.heap.rol,by simp [rn,h7],fun i ch B f hi hr j y e=>?_,fun i B f ho hr=>?_,fun i B f ho hr=>?_,fun i B f ho hl hr=>?_,fun i ch ho hl hi=>?_,fun i j B f f' ch ch' hij o1 o2 hi hj hri hrj=>?_,fun i m B f ho hi hr=>?_,fun i W ms hi=>?_⟩,by rw [ok.size,h5],fun d y e=>?_,ok.defers⟩
 ·have hi:i<C.r0.length:=by
   rcases Nat.lt_or_ge i C.r0.length with h|h
   ·exact h
   ·rw [List.getElem?_eq_none h] at e; cases e
  have:=pref_spec h1 i hi
  rw [Nat.zero_add] at this
  rw [rn_get hq this]
  exact ok.heap.agree i x e
 ·obtain ⟨j',hq',hr'⟩:=look i B f hr
  obtain ⟨_,h9⟩:=h8 i ch j' hi hq'
  obtain ⟨x,hx,hv⟩:=h9 j y e
  obtain ⟨v,e1,e2,e3⟩:=ok.heap.chunk hr' j x hx
  exact ⟨v,e1,hv v e2,fun hb=>e3 (le_ble (qro i j' hq' (ble_le hb)))⟩
 ·obtain ⟨j',hq',hr'⟩:=look i B f hr
  exact ok.heap.lt j' B f (qro i j' hq' ho) hr'
 ·obtain ⟨j',hq',hr'⟩:=look i B f hr
  exact ok.heap.own j' B f (qro i j' hq' ho) hr'
 ·obtain ⟨j',hq',hr'⟩:=look i B f hr
  rw [qpre i ho] at hq'
  injection hq' with hq'
  subst hq'
  exact ok.heap.ros i B f ho hl hr'
 ·obtain ⟨_,h9⟩:=h8 i ch i hi (qpre i ho)
  have hd:=ok.heap.dead i (getH s.h i) ho hl (chunk i (by have:=ok.heap.rol; have:=ok.heap.rlen; omega))
  cases e:flat ch with
  | nil=>rfl
  | cons y l =>
   obtain ⟨x,hx,_⟩:=h9 0 y (by rw [e]; rfl)
   rw [hd] at hx
   cases hx
 ·obtain ⟨i',hqi,hri'⟩:=look i B f hri
  obtain ⟨j',hqj,hrj'⟩:=look j B f' hrj
  by_cases hne:i'=j'
  ·subst hne
   rcases Nat.lt_or_ge i j with hlt|hge
   ·have e:=(hnd i j i' hqi hqj hlt).2
    rw [hj] at e
    injection e with e
    exact .inr e
   ·have e:=(hnd j i i' hqj hqi (by omega)).2
    rw [hi] at e
    injection e with e
    exact .inl e
  have l1:=hq i' (List.mem_of_getElem? hqi)
  have l2:=hq j' (List.mem_of_getElem? hqj)
  rw [hlen] at l1 l2
  rcases ok.heap.apart i' j' B f f' _ _ hne (qro i i' hqi o1) (qro j j' hqj o2) (chunk i' l1) (chunk j' l2) hri' hrj' with h|h
  ·exact .inl ((h8 i ch i' hi hqi).1.1 h)
  ·exact .inr ((h8 j ch' j' hj hqj).1.1 h)
 ·obtain ⟨j',hq',hr'⟩:=look i B f hr
  have hk:=(h8 i _ j' hi hq').1.2.1 m rfl
  have hl:=hq j' (List.mem_of_getElem? hq')
  rw [hlen] at hl
  exact ok.heap.maps j' m B f (qro i j' hq' ho) (by rw [chunk j' hl,hk]) hr'
 ·have hi0:i<q.length:=by
   rw [h7]
   rcases Nat.lt_or_ge i s'.h.length with h|h
   ·exact h
   ·rw [List.getElem?_eq_none h] at hi; cases hi
  have hqi:=List.getElem?_eq_getElem hi0
  have hk:=(h8 i _ _ hi hqi).1.2.2 W ms rfl
  have hl:=hq _ (List.mem_of_getElem? hqi)
  rw [hlen] at hl
  obtain ⟨p1,p2,p3⟩:=ok.heap.past _ W ms (by rw [chunk _ hl,hk])
  refine ⟨p1,p2,fun j B f ho hr hB=>?_⟩
  obtain ⟨j',hq',hr'⟩:=look j B f hr
  exact p3 j' B f (qro j j' hq' ho) hr' hB
 ·obtain ⟨x,hx,hv⟩:=h6 d y e
  exact hv _ (ok.slots d x hx)
theorem Ent.ok {q:List Nat} {s s':St} {r:Rho} {a:Act} {w:World} (h:Ent C q s s') (ok:Ok C s r a w):∃ r',Ok C s' r' a w:=⟨_,h.okN ok⟩
theorem Kseq_panic {K:Act→World→Prop} {Q:Exit→Act→World→Prop} (hP:PanicOk Q):PanicOk (Exit.then K Q):=fun c a d v w h=>hP c a d v w h
theorem inLoop_panic {P:Program} {c:Code} {Q:Exit→Act→World→Prop} (hP:PanicOk Q):PanicOk (Exit.then (InLoop P c Q) Q):=fun c a d v w h=>hP c a d v w h
theorem inBlock_panic {id:Nat} {Q:Exit→Act→World→Prop} (hP:PanicOk Q):PanicOk (Exit.inBlock id Q):=fun c a d v w h=>hP c a d v w h
theorem noGoto_panic {Q:Exit→Act→World→Prop} (hP:PanicOk Q):PanicOk (Exit.noGoto Q):=fun c a d v w h=>hP c a d v w h
theorem vc_sound (hT:AllT C.P C.T) (hm:C.P.follows .mixedOrders=true):∀ (c:Code) {s:St} {Q:Exit→St→Prop} {r:Rho} {a:Act} {w:World},vc C c s Q→Ok C s r a w →
  ∀ (Q':Exit→Act→World→Prop),PanicOk Q'→(∀ e s' r' a' w',Q e s'→Ok C s' r' a' w'→Q' e a' w')→c.wp C.P Q' a w
 | .skip,_,_,_,_,_,h,ok,Q',_,hQ=>wp_skip (hQ _ _ _ _ _ h ok)
 | .region _ ops false,_,_,_,_,_,h,ok,Q',_,hQ=>wp_region_list (vcOps_sound hT (fun s' r' a' w' h1 h2=>hQ _ s' r' a' w' h1 h2) h ok)
 | .region _ ops true,_,_,_,_,_,⟨_,_,_,_,hp,h⟩,ok,Q',hP,hQ=>draw_sound hT hm hP (fun s' r' a' w' h1 h2=>hQ _ s' r' a' w' h1 h2) hp h ok
 | .seq x y,_,Q,_,_,_,h,ok,Q',hP,hQ=>wp_seq (vc_sound hT hm x h ok _ (Kseq_panic hP) fun e s' r' a' w' h1 h2=>by
   cases e with
   | normal=>exact vc_sound hT hm y h1 h2 Q' hP hQ
   | _=>exact hQ _ _ _ _ _ h1 h2)
 | .cond c x y,s,Q,r,a,w,h,ok,Q',hP,hQ=>by
  have h:asC (ev s.t c) (fun|.bool t=>(t=true→vc C x s Q)∧(t=false→vc C y s Q)|_=>False):=h
  obtain ⟨b,h,hb,_⟩:=ev_c ok h
  split at h <;> try exact h.elim
  exact wp_cond_split hb (fun e=>vc_sound hT hm x (h.1 e) ok Q' hP hQ) (fun e=>vc_sound hT hm y (h.2 e) ok Q' hP hQ)
 | .block id b,_,Q,_,_,_,h,ok,Q',hP,hQ=>wp_block (vc_sound hT hm b h ok _ (inBlock_panic hP) fun e s' r' a' w' h1 h2=>by
   cases e with
   | exit i =>
    simp only [Kblk] at h1
    simp only [Exit.inBlock]
    split at h1
    ·rename_i hb; rw [if_pos (Nat.eq_of_beq_eq_true hb)]; exact hQ _ _ _ _ _ h1 h2
    ·rename_i hb; rw [if_neg (fun e=>by subst e; simp at hb)]; exact hQ _ _ _ _ _ h1 h2
   | _=>exact hQ _ _ _ _ _ h1 h2)
 | .loop b,s,Q,r,a,w,h,ok,Q',hP,hQ=>by
  rcases (show LoopVC C (vc C b) s Q from h) with ⟨X,inv,p,μ,⟨x,q,he,hp⟩,hr⟩|⟨n,hn⟩
  ·refine wp_loopX (fun x a w=>p x∧∃ r,Ok C (inv x) r a w) μ ⟨x,hp,he.ok ok⟩ ?_
   rintro x a w ⟨hp,r,ok⟩
   refine vc_sound hT hm b (hr x hp) ok _ (Kseq_panic hP) fun e s' r' a' w' h1 h2=>?_
   cases e with
   | normal =>
    obtain ⟨x',q,he,hp',hlt⟩:=h1
    exact ⟨x',⟨hp',he.ok h2⟩,hlt⟩
   | _=>exact hQ _ _ _ _ _ h1 h2
  ·refine wp_of_inLoop ?_
   clear h
   induction n generalizing s r a w with
   | zero =>
    obtain ⟨X,inv,p,μ,he,hr⟩:=(show LoopW C (vc C b) s Q from hn)
    obtain ⟨x,r',ok',hp⟩:=he r a w ok
    refine inLoop_of (fun x a w=>p x∧∃ r,Ok C (inv x) r a w) μ (fun x a w hI=>?_) _ x a w rfl ⟨hp,r',ok'⟩
    obtain ⟨hp,r,ok⟩:=hI
    refine vc_sound hT hm b (hr x hp) ok _ (Kseq_panic hP) fun e s' r' a' w' h1 h2=>?_
    cases e with
    | normal =>
     obtain ⟨x',r'',ok'',hp',hlt⟩:=(show EntW C s' inv (fun x'=>p x'∧μ x'<μ x) from h1) r' a' w' h2
     exact ⟨x',⟨hp',r'',ok''⟩,hlt⟩
    | _=>exact hQ _ _ _ _ _ h1 h2
   | succ n ih =>
    refine inLoop_round (vc_sound hT hm b (show vc C b s (Kseq (fun s'=>rounds C (vc C b) n s' Q) Q) from hn) ok _ (inLoop_panic hP) fun e s' r' a' w' h1 h2=>?_)
    cases e with
    | normal=>exact ih s' r' a' w' h2 (show rounds C (vc C b) n s' Q from h1)
    | _=>exact hQ _ _ _ _ _ h1 h2
 | .exit id,_,_,_,_,_,h,ok,Q',_,hQ=>wp_exit (hQ _ _ _ _ _ h ok)
 | .ret,_,_,_,_,_,h,ok,Q',_,hQ=>wp_ret (hQ _ _ _ _ _ h ok)
 | .rangeFunc ..,_,_,_,_,_,h,_,_,_,_=>h.elim
 | .scope c,_,_,_,_,_,h,ok,Q',hP,hQ=>wp_scope_straight (vc_sound hT hm c h ok _ (noGoto_panic hP) fun e s' r' a' w' h1 h2=>by
   cases e <;> first|exact hQ _ _ _ _ _ h1 h2|exact h1.elim)
 | .label _,_,_,_,_,_,h,ok,Q',_,hQ=>wp_label (hQ _ _ _ _ _ h ok)
 | .goto _,_,_,_,_,_,h,_,_,_,_=>h.elim
 | .refuse _,_,_,_,_,_,h,_,_,_,_=>h.elim
/-! What is returned. -/
def resSem (tmps:Array Value):ResultVar→Sem Value
 | .tmp t=>pure (tmps.getD t undef)
 | .cell q t=>do loadVar t (← asAddr (tmps.getD q undef))
theorem res1_spec (hT:AllT C.P C.T) {s:St} {x:ResultVar} {K:SA→Prop} {r:Rho} {a:Act} {w:World} (h:res1 C s x K) (ok:Ok C s r a w) :
  ∃ v y,K y∧SA.Is r y v∧(resSem a.tmps x).run C.P w=.ok v w:=by
 unfold res1 at h
 split at h
 ·rename_i d
  have hs:=ok.get d
  split at h <;> try exact h.elim
  rename_i y e
  simp only [e] at hs
  exact ⟨_,y,h,hs,rfl⟩
 ·rename_i d t
  obtain ⟨dd,hd,h⟩:=td_spec hT h
  have hs:=ok.get d
  split at h <;> try exact h.elim
  rename_i i b o e
  simp only [e] at hs
  obtain ⟨B,f,hr,hs⟩:=hs
  obtain ⟨l,h,hl,hsub⟩:=loadS_spec h
  rw [tot_shape,hd.len] at hl
  obtain ⟨vs,hv,hc⟩:=((ok.heap.chunk hr).sub (d:=b+o) hsub).vals
  have h':ofSegs dd.isAgg l (fun v=>match v with|.a y=>K y|_=>False):=by
   unfold ofSegs
   cases e:dd.isAgg with
   | true =>
    rw [e] at h
    exact h
   | false =>
    rw [e] at h
    clear hv hc
    rcases l with _|⟨y,_|⟨z',l'⟩⟩
    ·exact False.elim h
    ·cases y with
     | one x=>exact h
     | row n f=>exact False.elim h
     | obj m=>exact False.elim h
     | past W ms=>exact False.elim h
    ·cases y <;> exact False.elim h
  obtain ⟨v,z,h1,h2,h3⟩:=load_core (P:=C.P) hd h' hl hv (S:=fun w'=>w'=w) (fun w' e j v e'=>by subst e; exact hc j v e')
  split at h1 <;> try exact h1.elim
  refine ⟨v,_,h1,h2,?_⟩
  have:=h3 w rfl
  simp only [Instr.loadAt,Instr.sureAddr] at this
  simp only [resSem,hs,asAddr]
  exact this
theorem resL_spec (hT:AllT C.P C.T) {s:St} {r:Rho} {a:Act} {w:World} (ok:Ok C s r a w):∀ {l:List ResultVar} {K:List SA→Prop},resL C s l K →
  ∃ vs ys,K ys∧IsAs r ys vs∧(l.mapM (resSem a.tmps)).run C.P w=.ok vs w∧vs.length=l.length
 | [],K,h=>⟨[],[],h,⟨rfl,fun j x e=>by simp at e⟩,rfl,rfl⟩
 | x::l,K,h=>by
  obtain ⟨v,y,h,hy,hr⟩:=res1_spec hT (show res1 C s x (fun v=>resL C s l fun l=>K (v::l)) from h) ok
  obtain ⟨vs,ys,h,hys,hrs,hlen⟩:=resL_spec hT ok h
  refine ⟨v::vs,y::ys,h,⟨by simp [hys.1],fun j z e=>?_⟩,?_,by simp [hlen]⟩
  ·cases j with
   | zero=>simp at e; subst e; exact ⟨v,rfl,hy⟩
   | succ j=>exact hys.2 j z e
  ·simp only [List.mapM_cons,Sem.run_bind]
   rw [hr]
   simp only [Result.andThen_ok]
   rw [hrs]
   rfl
theorem res_spec (hT:AllT C.P C.T) {s:St} {fn:Func} {K:SV→Prop} {r:Rho} {a:Act} {w:World} (h:res C s fn.results.toList K) (ok:Ok C s r a w) :
  ∃ v y,K y∧SV.Is r y v∧(results fn a.tmps).run C.P w=.ok v w:=by
 have run:∀ {vs:List Value},(fn.results.toList.mapM (resSem a.tmps)).run C.P w=.ok vs w→(results fn a.tmps).run C.P w=.ok (if h:vs.toArray.size=1 then vs.toArray[0] else .tuple vs.toArray) w:=by
  intro vs h
  have e:(fn.results.mapM (resSem a.tmps)).run C.P w=.ok vs.toArray w:=by
   rw [Array.mapM_eq_mapM_toList,Sem.run_map,h]; rfl
  have e2:=Sem.run_bind C.P w (fn.results.mapM (resSem a.tmps)) (fun (vs:Array Value)=>(pure (if h:vs.size=1 then vs[0] else .tuple vs):Sem Value))
  rw [e] at e2
  exact e2
 unfold res at h
 split at h
 ·rename_i x hx
  obtain ⟨v,y,h,hy,hr⟩:=res1_spec hT h ok
  have:(fn.results.toList.mapM (resSem a.tmps)).run C.P w=.ok [v] w:=by
   rw [hx]
   simp only [List.mapM_cons,List.mapM_nil,Sem.run_bind]
   rw [hr]
   rfl
  exact ⟨v,_,h,hy,run this⟩
 ·rename_i hne
  obtain ⟨vs,ys,h,hys,hr,hlen⟩:=resL_spec hT ok h
  refine ⟨_,_,h,?_,run hr⟩
  have h1:¬ vs.toArray.size=1:=by
   intro e
   have:fn.results.toList.length=1:=by rw [← hlen]; simpa using e
   obtain ⟨x,hx⟩:=List.length_eq_one_iff.1 this
   exact hne x hx
  rw [dif_neg h1]
  exact ⟨vs,rfl,hys.1,hys.2⟩
theorem calls_of_body (hT:AllT C.P C.T) (hm:C.P.follows .mixedOrders=true) {f:FuncId} {fn:Func} {c:Code} {args:Array Value} {w:World} {R:Ending→World→Prop} (hf:C.P.funcs[f]?=some fn) (hb:fn.body=some c)
  {s:St} {r:Rho} {K:SV→List (List Seg)→Prop} (ok:Ok C s r { tmps:=args++Array.replicate (fn.ntmps-args.size) undef,defers:=[] } w) (h:Body C fn c s K)
  (hR:∀ v y h' r' w',K y h'→SV.Is r' y v→HeapOk C h' r' w'→R (.returned v) w'):Calls C.P f args w R:=by
 refine calls_of_wp hf hb (vc_sound hT hm c h ok _ (fun ch a d v w h=>?_) fun e s' r' a' w' hk ok'=>?_)
 ·obtain ⟨h1,h2⟩:=h
  refine ⟨?_,h2⟩
  cases d <;> exact h1
 ·cases e <;> try exact hk.elim
  all_goals
   obtain ⟨v,y,h1,h2,h3⟩:=res_spec hT (show res C s' fn.results.toList (fun v=>K v s'.h) from hk) ok'
   exact ⟨ok'.defers,v,h3,hR v y s'.h r' w' h1 h2 ok'.heap⟩
end
end Sx
end
end Go.Proofs.Ytgmbfaefadefjaa
