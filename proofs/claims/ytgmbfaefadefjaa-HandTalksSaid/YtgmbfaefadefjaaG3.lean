/-
  Texts of this claim, part 3: Sxo. No condition of its own.
-/
import Derived.Test.YtgmbfaefadefjaaG2
namespace Go.Proofs.Ytgmbfaefadefjaa
set_option linter.unusedVariables false
section
namespace Sx
open Go.RowKit

section
variable {C : Cx} {ops : Array Oper} {Q : Exit → Act → World → Prop}
def PanicOk (Q:Exit→Act→World→Prop):Prop:=∀ c (a:Act) (d:Option Tmp) (v:Value) w,Q (.panic c) (a.put d v) w→Q (.panic c) a w
theorem wpOp_of {i:Nat} {o:Oper} (ho:ops[i]?=some o) {K:Act→World→Prop} {a:Act} {w:World} (h:if Region.wanted o (yielded ops a.tmps) then o.wp C.P a w K Q else K (a.put o.dst undef) w):wpOp C.P ops Q i K a w:=by
 unfold wpOp
 simp only [ho]
 split
 ·rename_i hw; rw [if_pos hw] at h; exact .inl h
 ·rename_i hw; rw [if_neg hw] at h; exact h
theorem planB_sound {K:St→Prop} (hT:AllT C.P C.T) (hQ:∀ s' r' a' w',K s'→Ok C s' r' a' w'→Q .normal a' w') :
  ∀ {B:List Nat} {l:Array Bool} {s:St} {r:Rho} {a:Act} {w:World},planB ops B l=true→vcB C ops B s K→Ok C s r a w→wpAny C.P .any ops Q B.length l a w
 | [],l,s,r,a,w,hp,hk,ok=>⟨by simpa [planB] using hp,hQ _ _ _ _ hk ok⟩
 | i::B,l,s,r,a,w,hp,hk,ok=>by
  simp only [planB,Bool.and_eq_true,beq_iff_eq] at hp
  obtain ⟨hr,hp⟩:=hp
  refine ⟨(fun h=>by rw [hr] at h; cases h),fun j hj=>?_⟩
  rw [hr] at hj
  obtain rfl:j=i:=by simpa using hj
  unfold vcB at hk
  split at hk <;> try exact hk.elim
  rename_i o ho
  exact wpOp_of ho (one_sound hT ok hk fun _ _ _ _ _ h1 h2 _ _=>planB_sound hT hQ hp h1 h2)
theorem set_self (l:Array Bool) (i:Nat):(l.setIfInBounds i true).getD i true=true:=by
 rw [Array.getD_eq_getD_getElem?]
 by_cases h:i<l.size <;> simp [h]
/-! What may come at any time. -/
def floV:Option (Nat × Nat)→Nat→Nat→Value
 | none,B,f=>.pointer (some ⟨B,f,none⟩)
 | some (l,c),B,f=>.slice (some ⟨B,f,none⟩) l c
def floC:Option (Nat × Nat)→Nat→SC
 | none,i=>.p i 0 0
 | some (l,c),i=>.sl i 0 0 l c
theorem floC_is {m:Option (Nat × Nat)} {i:Nat} {r:Rho} {v:Value} (h:(floC m i).Is r v):∃ B f,r[i]?=some (B,f)∧v=floV m B f:=by
 cases m with
 | none=>obtain ⟨B,f,e,rfl⟩:=h; exact ⟨B,f,e,by simp [floV]⟩
 | some m=>obtain ⟨B,f,e,rfl⟩:=h; exact ⟨B,f,e,by simp [floV]⟩
theorem is_floC (m:Option (Nat × Nat)) {i:Nat} {r:Rho} {B f:Nat} (h:r[i]?=some (B,f)):(floC m i).Is r (floV m B f):=by
 cases m with
 | none=>exact ⟨B,f,h,by simp [floV]⟩
 | some m=>exact ⟨B,f,h,by simp [floV]⟩
theorem floB_cases {T:List (Nat × TD)} {u len:Nat} {parts:List (Nat × Operand)} {ch:List Seg} {m:Option (Nat × Nat)} (hf:floB T u len parts=some (ch,m)) :
  ∃ d e de,findT T u=some d∧d.k=.slice e∧findT T e=some de∧((len=0∧parts=[]∧m=some (0,0)∧((∃ z,de.zero=[.one z]∧ch=[.row 0 (nthC [])])∨((∀ z,de.zero≠[.one z])∧∃ sz,de.size=sz+1∧ch=[.row (0*(sz+1)) (fun j=>nthC (flat de.zero) (j % (sz+1)))]))) ∨
   ∃ x z,len=1∧parts=[(0,.const (.string x))]∧m=some (1,1)∧de.zero=[.one z]∧Nat.ble (1*de.size) 16777216=true∧ch=[.row 1 (nthC [.str x.data.toList])]):=by
 unfold floB at hf
 split at hf <;> try (cases hf; done)
 rename_i d hd
 split at hf <;> try (cases hf; done)
 rename_i e he
 split at hf <;> try (cases hf; done)
 rename_i de hde
 refine ⟨d,e,de,hd,he,hde,?_⟩
 split at hf <;> try (cases hf; done)
 ·split at hf
  ·rename_i z hz
   simp only [Option.some.injEq,Prod.mk.injEq] at hf
   obtain ⟨rfl,rfl⟩:=hf
   exact .inl ⟨rfl,rfl,rfl,.inl ⟨z,hz,rfl⟩⟩
  ·rename_i hz
   split at hf <;> try (cases hf; done)
   rename_i sz hsz
   simp only [Option.some.injEq,Prod.mk.injEq] at hf
   obtain ⟨rfl,rfl⟩:=hf
   exact .inl ⟨rfl,rfl,rfl,.inr ⟨fun z hc=>hz z hc,sz,hsz,rfl⟩⟩
 ·rename_i x
  split at hf <;> try (cases hf; done)
  rename_i z hz hb
  simp only [Option.some.injEq,Prod.mk.injEq] at hf
  obtain ⟨rfl,rfl⟩:=hf
  exact .inr ⟨x,_,rfl,rfl,rfl,hz,hb,rfl⟩
theorem floB_plain {T:List (Nat × TD)} {u len:Nat} {parts:List (Nat × Operand)} {ch:List Seg} {m:Option (Nat × Nat)} (hf:floB T u len parts=some (ch,m)):(∀ x∈flat ch,x.plain=true)∧hd1 ch=true:=by
 obtain ⟨d,e,de,_,_,_,h⟩:=floB_cases hf
 rcases h with ⟨_,_,_,⟨_,_,rfl⟩|⟨_,sz,_,rfl⟩⟩|⟨x,_,_,_,_,_,_,rfl⟩
 ·exact ⟨fun x hx=>by simp [flat] at hx,rfl⟩
 ·exact ⟨fun x hx=>by simp [flat] at hx,rfl⟩
 ·refine ⟨fun y hy=>?_,rfl⟩
  have:y=.str x.data.toList:=by simpa [flat,nthC] using hy
  rw [this]; rfl
theorem floB_step {u len:Nat} {parts:Array (Nat × Operand)} {ch:List Seg} {m:Option (Nat × Nat)} (hf:floB C.T u len parts.toList=some (ch,m)) {t:List SV} {h:List (List Seg)} {k:SV→List (List Seg)→Prop}:stepC C (.buildSlice u len parts) t h k ↔ k (.a (.c (floC m h.length))) (h++[ch]):=by
 obtain ⟨d,e,de,h1,h2,h3,hc⟩:=floB_cases hf
 unfold stepC
 simp only [td,h1,h2,h3]
 rcases hc with ⟨rfl,hp,rfl,⟨z,hz,rfl⟩|⟨hz,sz,hsz,rfl⟩⟩|⟨x,z,rfl,hp,rfl,hz,hb,rfl⟩
 ·simp only [hz,hp,reps,buildR,addH_eq,Nat.zero_add,Nat.zero_mul]
  rfl
 ·rw [hp]
  have hb:Nat.ble (0*de.size) 16777216=true:=by rw [Nat.zero_mul]; rfl
  rw [hb]
  split
  ·rename_i hz2
   exact absurd hz2 (hz _)
  ·rw [hsz]
   simp only [frcN_eq,buildL,addH_eq,Nat.zero_add]
   rfl
  ·rename_i hn _
   first
    | exact (hn rfl).elim
    | exact (hn _ rfl).elim
    | exact (hn []).elim
 ·simp only [hz,hp,hb,reps,buildR,buildR.setC,ev,ofVal,asC,addH_eq,Nat.zero_add]
  rfl
theorem flo_plain {P:Program} {T:List (Nat × TD)} (hT:AllT P T) {op:Op} {ch:List Seg} {m:Option (Nat × Nat)} (hf:flo T op=some (ch,m)):∀ x∈flat ch,x.plain=true:=by
 unfold flo at hf
 split at hf
 ·split at hf
  ·rename_i d e
   split at hf
   ·simp only [Option.some.injEq,Prod.mk.injEq] at hf
    obtain ⟨rfl,_⟩:=hf
    exact List.all_eq_true.1 (hT.find e).plain
   ·cases hf
  ·cases hf
 ·split at hf
  ·split at hf
   ·split at hf
    ·rename_i de e
     split at hf
     ·rename_i z hz
      split at hf
      ·simp only [Option.some.injEq,Prod.mk.injEq] at hf
       obtain ⟨rfl,_⟩:=hf
       intro x hx
       have:=(hT.find e).plain
       rw [hz] at this
       simp [flat] at hx this
       obtain ⟨_,_,rfl⟩:=hx
       exact this
      ·cases hf
     ·cases hf
    ·cases hf
   ·cases hf
  ·cases hf
 ·exact (floB_plain hf).1
 ·cases hf
theorem flo_st {T:List (Nat × TD)} {op:Op} {x:List Seg × Option (Nat × Nat)} (hf:flo T op=some x):isCh op=true∧isSt op=false:=by
 unfold flo at hf
 split at hf
 ·exact ⟨rfl,rfl⟩
 ·exact ⟨rfl,rfl⟩
 ·exact ⟨rfl,rfl⟩
 ·cases hf
theorem td_find {u:Nat} {K:TD→Prop} {d:TD} (e:findT C.T u=some d) (hk:td C u K):K d:=by
 unfold td at hk; rw [e] at hk; exact hk
theorem td_back {u:Nat} {K:TD→Prop} {d:TD} (e:findT C.T u=some d) (hk:K d):td C u K:=by
 unfold td; rw [e]; exact hk
theorem flo_step {op:Op} {ch:List Seg} {m:Option (Nat × Nat)} (hf:flo C.T op=some (ch,m)) {t:List SV} {h:List (List Seg)} {k:SV→List (List Seg)→Prop} (hk:stepC C op t h k):k (.a (.c (floC m h.length))) (h++[ch]):=by
 unfold flo at hf
 split at hf
 ·split at hf
  ·rename_i d e
   split at hf
   ·rename_i hz
    simp only [Option.some.injEq,Prod.mk.injEq] at hf
    obtain ⟨rfl,rfl⟩:=hf
    unfold stepC at hk
    have hk:=td_find e hk
    simp only [hz,addH_eq,Nat.zero_add] at hk
    exact hk
   ·cases hf
  ·cases hf
 ·split at hf
  ·rename_i d e
   split at hf
   ·rename_i et hd
    split at hf
    ·rename_i de e2
     split at hf
     ·rename_i z hz
      split at hf
      ·simp only [Option.some.injEq,Prod.mk.injEq] at hf
       obtain ⟨rfl,rfl⟩:=hf
       unfold stepC at hk
       have hk:=td_find e hk
       simp only [hd] at hk
       have hk:=td_find e2 hk
       simp only [ev,ofVal,ofInt,asC,frcSC,idx,frcN_eq,Int.toNat_natCast,hz,addH_eq,Nat.zero_add,Int.ofNat_eq_natCast] at hk
       exact hk.2
      ·cases hf
     ·cases hf
    ·cases hf
   ·cases hf
  ·cases hf
 ·exact (floB_step hf).1 hk
 ·cases hf
theorem step_flo {T:List (Nat × TD)} {P:Program} {op:Op} {ch:List Seg} {m:Option (Nat × Nat)} (hf:flo T op=some (ch,m)) (w:World) (t:List SV):stepC ⟨P,T,w,[],[],0,fun _=>True,fun _=>True⟩ op t [] fun x h=>x=.a (.c (floC m 0))∧h=[ch]:=by
 unfold flo at hf
 split at hf
 ·split at hf
  ·rename_i d e
   split at hf
   ·rename_i hz
    simp only [Option.some.injEq,Prod.mk.injEq] at hf
    obtain ⟨rfl,rfl⟩:=hf
    unfold stepC
    refine td_back (C:=⟨P,T,w,[],[],0,fun _=>True,fun _=>True⟩) e ?_
    simp only [hz,addH_eq,Nat.zero_add]
    exact ⟨rfl,rfl⟩
   ·cases hf
  ·cases hf
 ·split at hf
  ·rename_i d e
   split at hf
   ·rename_i et hd
    split at hf
    ·rename_i de e2
     split at hf
     ·rename_i z hz
      split at hf
      ·rename_i hb
       simp only [Option.some.injEq,Prod.mk.injEq] at hf
       obtain ⟨rfl,rfl⟩:=hf
       simp only [Bool.and_eq_true,Nat.ble_eq] at hb
       unfold stepC
       refine td_back (C:=⟨P,T,w,[],[],0,fun _=>True,fun _=>True⟩) e ?_
       simp only [hd]
       refine td_back (C:=⟨P,T,w,[],[],0,fun _=>True,fun _=>True⟩) e2 ?_
       refine ⟨⟨Int.natCast_nonneg _,Int.ofNat_le.2 hb.1.1,?_,Int.ofNat_le.2 hb.2⟩,?_⟩
       ·have:=Int.ofNat_le.2 hb.1.2
        rw [Int.natCast_mul] at this
        exact this
       ·rw [frcN_eq,frcN_eq]
        simp only [hz,addH_eq,Nat.zero_add]
        exact ⟨rfl,rfl⟩
      ·cases hf
     ·cases hf
    ·cases hf
   ·cases hf
  ·cases hf
 ·exact (floB_step (C:=⟨P,T,w,[],[],0,fun _=>True,fun _=>True⟩) hf).2 ⟨rfl,rfl⟩
 ·cases hf
theorem flo_hd {T:List (Nat × TD)} {op:Op} {ch:List Seg} {m:Option (Nat × Nat)} (hf:flo T op=some (ch,m)):hd1 ch=true:=by
 unfold flo at hf
 split at hf
 ·split at hf
  ·split at hf
   ·rename_i hz
    simp only [Option.some.injEq,Prod.mk.injEq] at hf
    obtain ⟨rfl,_⟩:=hf
    exact hz
   ·cases hf
  ·cases hf
 ·split at hf
  ·split at hf
   ·split at hf
    ·split at hf
     ·split at hf
      ·simp only [Option.some.injEq,Prod.mk.injEq] at hf
       obtain ⟨rfl,_⟩:=hf
       rfl
      ·cases hf
     ·cases hf
    ·cases hf
   ·cases hf
  ·cases hf
 ·exact (floB_plain hf).2
 ·cases hf
theorem flo_run (hT:AllT C.P C.T) {op:Op} {ch:List Seg} {m:Option (Nat × Nat)} (hf:flo C.T op=some (ch,m)) {a:Act} (hd:a.defers=[]) (w:World) :
  ∃ B f w',(∀ o:Oper,o.op=op→(execOp a.eval o).run C.P w=.ok (.value (floV m B f)) w')∧Ext [] w w'∧w.heap.size≤B∧B<w'.heap.size∧At true [] w' B f (flat ch):=by
 have hk:=step_flo (P:=C.P) hf w (List.replicate a.tmps.size .any)
 have ok:Ok ⟨C.P,C.T,w,[],[],0,fun _=>True,fun _=>True⟩ ⟨List.replicate a.tmps.size .any,[]⟩ [] a w :=
  ⟨⟨Ext.refl _ _,RLe.refl _,Nat.le_refl _,rfl,fun i ch B f hi=>by simp at hi,fun i B f _ hr=>by simp at hr,fun i B f _ hr=>by simp at hr,fun i B f _ _ hr=>by simp at hr,fun i ch _ _ hi=>by simp at hi,fun i j B f f' ch ch' _ _ _ hi=>by simp at hi,fun i m B f _ hi=>by simp at hi,fun i W ms hi=>by simp at hi⟩,by simp,fun d x e=>by
   rw [List.getElem?_replicate] at e
   split at e
   ·injection e with e; subst e; trivial
   ·(cases e),hd⟩
 obtain ⟨v,x,h',r',w',⟨rfl,rfl⟩,hx,_,hh,he,_,hrun⟩:=stepC_sound (C:=⟨C.P,C.T,w,[],[],0,fun _=>True,fun _=>True⟩) hT ok hk
 obtain ⟨B,f,hr,rfl⟩:=floC_is hx
 refine ⟨B,f,w',fun o ho=>?_,he.quiet (flo_st hf).2,?_,hh.lt 0 B f (Nat.zero_le _) hr,fun j y e=>?_⟩
 ·rcases hrun o ho with h|⟨_,h⟩
  ·exact h
  ·cases m <;> cases h
 ·rcases hh.own 0 B f (Nat.zero_le _) hr with h|h
  ·cases h
  ·exact h
 ·obtain ⟨v,e1,e2,e3⟩:=hh.chunks 0 ch B f rfl hr j y e
  have hp:=flo_plain hT hf y (List.mem_of_getElem? e)
  refine ⟨v,e1,?_,fun _=>e3 rfl⟩
  cases y <;> first|exact e2|cases hp
def Rec (C:Cx) (ops:Array Oper) (a:Act) (w:World) (h:List (List Seg)) (r:Rho) (x:Nat × Nat × Nat):Prop :=
 ∃ o d ch m,ops[x.1]?=some o∧o.dst=some d∧o.guard=none∧flo C.T o.op=some (ch,m)∧a.tmps.getD d undef=floV m x.2.1 x.2.2∧At true [] w x.2.1 x.2.2 (flat ch)∧x.2.1<w.heap.size∧x.2.1 ∉ (r.drop C.ro).map (·.1)∧C.w0.heap.size≤x.2.1∧∀ (i:Nat) (W:World) (ms:List Nat),h[i]?=some [.past W ms]→x.2.1<W.heap.size→x.2.1∈ms
theorem HeapOk.adopt {h:List (List Seg)} {r:Rho} {w:World} (ok:HeapOk C h r w) {B f:Nat} {ch:List Seg} (h1:At true [] w B f (flat ch)) (h2:B<w.heap.size) (h3:B ∉ (r.drop C.ro).map (·.1)) (h4:C.w0.heap.size≤B) (h5:∀ (i:Nat) (W:World) (ms:List Nat),h[i]?=some [.past W ms]→B<W.heap.size→B∈ms) (h6:hd1 ch=true):HeapOk C (h++[ch]) (r++[(B,f)]) w:=by
 have hlen:r.length=h.length:=ok.len
 have hr:∀ (i B' f':Nat),(r++[(B,f)])[i]?=some (B',f')→(i<h.length∧r[i]?=some (B',f'))∨(i=h.length∧B'=B∧f'=f):=by
  intro i B' f' e
  rcases Nat.lt_trichotomy i h.length with hi|hi|hi
  ·rw [List.getElem?_append_left (by omega)] at e; exact .inl ⟨hi,e⟩
  ·subst hi
   rw [← hlen] at e
   simp at e
   exact .inr ⟨rfl,e.1.symm,e.2.symm⟩
  ·rw [List.getElem?_eq_none (by simp; omega)] at e; cases e
 have hh:∀ (i:Nat) c,(h++[ch])[i]?=some c→(i<h.length∧h[i]?=some c)∨(i=h.length∧c=ch):=by
  intro i c e
  rcases Nat.lt_trichotomy i h.length with hi|hi|hi
  ·rw [List.getElem?_append_left hi] at e; exact .inl ⟨hi,e⟩
  ·subst hi
   simp at e
   exact .inr ⟨rfl,e.symm⟩
  ·rw [List.getElem?_eq_none (by simp; omega)] at e; cases e
 have nb:∀ (i f':Nat),C.ro≤i→r[i]?=some (B,f')→False:=fun i f' ho e=>h3 (mem_drop.2 ⟨i,f',ho,e⟩)
 have hrl:=ok.rlen
 have hrl2:=ok.rol
 refine ⟨ok.ext,ok.agree.trans (RLe.snoc _ _),ok.rol,by simp [hlen],fun i c B' f' hi hri=>?_,fun i B' f' ho hri=>?_,fun i B' f' ho hri=>?_,fun i B' f' ho hl hri=>?_,fun i c ho hl hi=>?_,fun i j B' f1 f2 c c' hij o1 o2 hi hj hri hrj=>?_,fun i m B' f' ho hi hri=>?_,fun i W ms hi=>?_⟩
 ·rcases hr i B' f' hri with ⟨q1,q2⟩|⟨q1,rfl,rfl⟩
  ·rcases hh i c hi with ⟨_,p2⟩|⟨p1,_⟩
   ·exact (ok.chunks i c B' f' p2 q2).mono (RLe.snoc _ _)
   ·omega
  ·rcases hh i c hi with ⟨p1,_⟩|⟨_,rfl⟩
   ·omega
   ·intro j y e
    obtain ⟨v,e1,e2,e3⟩:=h1 j y e
    exact ⟨v,e1,e2.mono (fun i x e=>by cases e),fun _=>e3 rfl⟩
 ·rcases hr i B' f' hri with ⟨_,q2⟩|⟨_,rfl,_⟩
  ·exact ok.lt i B' f' ho q2
  ·exact h2
 ·rcases hr i B' f' hri with ⟨_,q2⟩|⟨_,rfl,_⟩
  ·exact ok.own i B' f' ho q2
  ·exact .inr h4
 ·rcases hr i B' f' hri with ⟨_,q2⟩|⟨q1,_,_⟩
  ·exact ok.ros i B' f' ho hl q2
  ·omega
 ·rcases hh i c hi with ⟨_,u2⟩|⟨u1,_⟩
  ·exact ok.dead i c ho hl u2
  ·omega
 ·rcases hr i B' f1 hri with ⟨q1,q2⟩|⟨q1,q2,_⟩ <;> rcases hr j B' f2 hrj with ⟨p1,p2⟩|⟨p1,p2,_⟩
  ·rcases hh i c hi with ⟨_,u2⟩|⟨u1,_⟩
   ·rcases hh j c' hj with ⟨_,v2⟩|⟨v1,_⟩
    ·exact ok.apart i j B' f1 f2 c c' hij o1 o2 u2 v2 q2 p2
    ·omega
   ·omega
  ·subst p2; exact (nb i f1 o1 q2).elim
  ·subst q2; exact (nb j f2 o2 p2).elim
  ·omega
 ·rcases hh i _ hi with ⟨u1,u2⟩|⟨_,rfl⟩
  ·rcases hr i B' f' hri with ⟨_,q2⟩|⟨q1,_⟩
   ·exact ok.maps i m B' f' ho u2 q2
   ·omega
  ·cases h6
 ·rcases hh i _ hi with ⟨u1,u2⟩|⟨_,rfl⟩
  ·obtain ⟨p1,p2,p3⟩:=ok.past i W ms u2
   refine ⟨p1,p2,fun j B' f' ho hrj hB=>?_⟩
   rcases hr j B' f' hrj with ⟨_,q2⟩|⟨_,rfl,_⟩
   ·exact p3 j B' f' ho q2 hB
   ·exact h5 i W ms u2 hB
  ·cases h6
theorem Ok.adopt {s:St} {r:Rho} {a:Act} {w:World} (ok:Ok C s r a w) {ops:Array Oper} {x:Nat × Nat × Nat} {d:Nat} {ch:List Seg} {m:Option (Nat × Nat)}
  (hv:a.tmps.getD d undef=floV m x.2.1 x.2.2) (h1:At true [] w x.2.1 x.2.2 (flat ch)) (h2:x.2.1<w.heap.size) (h3:x.2.1 ∉ (r.drop C.ro).map (·.1)) (h4:C.w0.heap.size≤x.2.1) (h5:∀ (i:Nat) (W:World) (ms:List Nat),s.h[i]?=some [.past W ms]→x.2.1<W.heap.size→x.2.1∈ms) (h6:hd1 ch=true) :
  Ok C ⟨s.t.set d (.a (.c (floC m s.h.length))),s.h++[ch]⟩ (r++[(x.2.1,x.2.2)]) a w:=by
 refine ⟨ok.heap.adopt h1 h2 h3 h4 h5 h6,by simpa using ok.size,fun e y he=>?_,ok.defers⟩
 by_cases hde:d=e
 ·subst hde
  simp only [List.getElem?_set_self'] at he
  cases hs:s.t[d]? with
  | none=>rw [hs] at he; cases he
  | some z =>
   rw [hs] at he
   simp at he
   subst he
   rw [hv]
   exact is_floC m (by rw [← ok.heap.len]; simp)
 ·rw [List.getElem?_set_ne hde] at he
  exact (ok.slots e y he).mono (RLe.snoc _ _)
theorem Stand.weaken {q:Keep} {h h':List (List Seg)} {r r':Rho} {w w':World} (kk:Keeps h h') (hr:RLe r r') (k:Stand C q h' r' w w'):Stand C q h r w w':=by
 cases q with
 | free=>trivial
 | all=>exact k
 | only l=>exact ⟨k.1,fun i hi ho B f e=>k.2.1 i hi ho B f (hr _ _ e),fun i W ms e=>let ⟨_,_,e2,hl⟩:=kk i W ms e; hl.ext (k.2.2 i _ _ e2)⟩
theorem Stand.trans {q:Keep} {h h':List (List Seg)} {r r':Rho} {w w1 w':World} (hr:RLe r r') (kk:q.binds=true→Keeps h h') (k:Stand C q h r w w1) (k':Stand C q h' r' w1 w'):Stand C q h r w w':=by
 cases q with
 | free=>trivial
 | all=>exact Ext.trans k k'
 | only l =>
  refine ⟨k'.1,fun i hi ho B f e hB=>?_,fun i W ms e=>let ⟨_,_,e2,hl⟩:=kk rfl i W ms e; hl.ext (k'.2.2 i _ _ e2)⟩
  ·have e2:=k.2.1 i hi ho B f e hB
   refine (k'.2.1 i hi ho B f (hr _ _ e) ?_).trans e2
   rcases Nat.lt_or_ge B w1.heap.size with h1|h1
   ·exact h1
   ·rw [Array.getElem?_eq_none h1,Array.getElem?_eq_getElem hB] at e2; cases e2
theorem memB_iff {x:Nat}:∀ {l:List Nat},memB x l=true ↔ x∈l
 | []=>by simp [memB]
 | y::l=>by
  simp only [memB]
  split
  ·rename_i h; simp [Nat.eq_of_beq_eq_true h]
  ·rename_i h
   rw [memB_iff (l:=l)]
   have:x≠y:=fun e=>by subst e; simp at h
   simp [this]
theorem Stand.near {q:Keep} (hq:q.binds=true) {h:List (List Seg)} {r:Rho} {w w':World} (ok:HeapOk C h r w) {l:List Nat} (hl:seenOk q C.ro l=true) (k:Stand C q h r w w'):Near C h r l w w':=by
 cases q with
 | free=>cases hq
 | all=>exact ⟨ok.ext.quiet k,fun i _ _ B f hr hB=>k.block B hB (by simp),fun i W ms e=>(ok.past i W ms e).1.quiet k⟩
 | only m =>
  refine ⟨k.1,fun i hi ho B f hr hB=>?_,k.2.2⟩
  have:=List.all_eq_true.1 hl i hi
  rw [Bool.or_eq_true] at this
  rcases this with h|h
  ·exact k.2.1 i (memB_iff.1 h) ho B f hr hB
  ·have h:i<C.ro:=Nat.le_of_ble_eq_true h
   omega
theorem floOk_spec {T:List (Nat × TD)} {j:Nat}:∀ {AL:List Nat},floOk T ops AL=true→j∈AL→∃ o d ch m,ops[j]?=some o∧o.dst=some d∧o.guard=none∧flo T o.op=some (ch,m)∧∀ i o',ops[i]?=some o'→i≠j→o'.dst≠some d
 | [],_,h=>by cases h
 | x::AL,hf,h=>by
  simp only [floOk,Bool.and_eq_true] at hf
  cases h with
  | tail _ h=>exact floOk_spec hf.2 h
  | head =>
   have hf:=hf.1
   split at hf <;> try cases hf
   rename_i o ho
   split at hf <;> try cases hf
   rename_i d hd
   split at hf <;> try cases hf
   rename_i hg
   simp only [Bool.and_eq_true] at hf
   obtain ⟨⟨ch,m⟩,e⟩:=Option.isSome_iff_exists.1 hf.1
   refine ⟨o,d,ch,m,ho,hd,hg,e,fun i o' hi hne hc=>?_⟩
   have hi':=(Array.getElem?_eq_some_iff.1 hi).1
   have:=List.all_eq_true.1 hf.2 i (List.mem_range.2 hi')
   rw [Bool.or_eq_true] at this
   rcases this with h|h
   ·exact hne (Nat.eq_of_beq_eq_true h)
   ·have e:dstOf ops i=some d:=by simp [dstOf,hi,hc]
    rw [e] at h
    simp at h
theorem getD_setAll {j:Nat}:∀ {L:List Nat} {l:Array Bool},(setAll l L).getD j true=(l.getD j true || decide (j∈L))
 | [],l=>by simp [setAll]
 | i::L,l=>by
  rw [setAll,getD_setAll]
  by_cases h:i=j
  ·subst h; rw [set_self]; simp
  ·rw [getD_set_ne true h]
   have:j≠i:=fun e=>h e.symm
   simp [this]
theorem size_setAll:∀ {L:List Nat} {l:Array Bool},(setAll l L).size=l.size
 | [],l=>rfl
 | i::L,l=>by rw [setAll,size_setAll]; simp
theorem getD_ff {l:Array Bool} {j:Nat}:l.getD j false=true ↔ j<l.size∧l.getD j true=true:=by
 rw [Array.getD_eq_getD_getElem?,Array.getD_eq_getD_getElem?]
 by_cases h:j<l.size <;> simp [h]
theorem sub_len:∀ {xs ys:List Nat},xs.Nodup→(∀ x∈xs,x∈ys)→xs.length≤ys.length
 | [],_,_,_=>Nat.zero_le _
 | x::xs,ys,hn,hs=>by
  obtain ⟨h1,h2⟩:=List.nodup_cons.1 hn
  have hx:=hs x (by simp)
  have:=sub_len (ys:=ys.erase x) h2 (fun y hy=>(List.mem_erase_of_ne (fun e=>by subst e; exact h1 hy)).2 (hs y (by simp [hy])))
  rw [List.length_erase_of_mem hx] at this
  have hp:=List.length_pos_of_mem hx
  simp only [List.length_cons]
  omega
theorem nodup_mid {α β:Type} {f:α→β} {L1 L2:List α} {x y:α} (h:((L1++x::L2).map f).Nodup) (hy:y∈L1++L2):f y≠f x:=by
 rw [List.map_append,List.map_cons,List.nodup_append] at h
 obtain ⟨_,h2,h3⟩:=h
 rcases List.mem_append.1 hy with h|h
 ·exact h3 _ (List.mem_map_of_mem h) _ (by simp)
 ·exact fun e=>(List.nodup_cons.1 h2).1 (e ▸ List.mem_map_of_mem h)
theorem sub_mid {α:Type} (L1 L2:List α) (x:α):(L1++L2).Sublist (L1++x::L2):=List.Sublist.append (List.Sublist.refl _) (List.sublist_cons_self _ _)
theorem memOf_spec {A:List (Nat × Bool)} {x:Nat × Bool} (hx:x∈A):x.1∈memOf ops A∨x.2=true∧∀ o,ops[x.1]?=some o→pureOp o.op=true:=by
 by_cases h:(x.2 && match ops[x.1]? with
  | some o=>pureOp o.op
  | none=>false)=true
 ·rw [Bool.and_eq_true] at h
  exact .inr ⟨h.1,fun o ho=>by have:=h.2; rw [ho] at this; exact this⟩
 ·refine .inl (List.mem_map.2 ⟨x,List.mem_filter.2 ⟨hx,?_⟩,rfl⟩)
  show (!(x.2 && match ops[x.1]? with|some o=>pureOp o.op|none=>false))=true
  rw [Bool.eq_false_iff.2 h]
  rfl
theorem planA_sound {K:St→Prop} {q:Keep} (hq:q.binds=true) (hT:AllT C.P C.T) (hP:PanicOk Q) {AL B:List Nat} {T M:List Nat} (hfl:floOk C.T ops AL=true) (hAL:∀ j∈AL,j∈T) (hns:Region.noSelect ops=true) (hw:Region.waitsM .any ops T M=true)
  (hQ:∀ s' r' a' w',K s'→Ok C s' r' a' w'→Q .normal a' w') :
  ∀ (m n:Nat) {A:List (Nat × Bool)} {l lr:Array Bool} {D:List (Nat × Nat × Nat)} {s:St} {r:Rho} {a:Act} {w:World},n+A.length≤m →
   (∀ j,lr.getD j true=(l.getD j true || decide (j∈D.map (·.1))))→lr.size=l.size→Region.Closed .any ops lr→(∀ x∈A,x.1∈T)→(∀ x∈A,x.1∈M∨x.2=true∧∀ o,ops[x.1]?=some o→pureOp o.op=true)→planOk ops AL B A l=true →
   (∀ i∈T,l.getD i true=false→∃ g,(i,g)∈A)→(∀ x∈D,x.1∈AL∧l.getD x.1 true=false∧Rec C ops a w s.h r x)→(D.map (·.1)).Nodup→(D.map (·.2.1)).Nodup →
   (∀ j∈AL,l.getD j true=false→∀ d,dstOf ops j=some d→s.t[d]?=some .any)→n+D.length=A.length+B.length →
   vcA C q ops A s (fun s'=>vcB C ops B s' K)→Ok C s r a w→wpAnyT C.P .any ops Q (Stand C q s.h r w) T n lr a w:=by
 intro m
 induction m with
 | zero =>
  intro n A l lr D s r a w hm hlr hsz hc hA hM hp hl hD hD1 hD2 hany hn hk ok
  obtain rfl:A=[]:=List.eq_nil_of_length_eq_zero (by omega)
  obtain rfl:n=0:=by omega
  have hB:B=[]:=List.eq_nil_of_length_eq_zero (by
   cases D with
   | nil=>simp at hn; simp [hn]
   | cons x D=>obtain ⟨g,hg⟩:=hl x.1 (hAL _ (hD x (by simp)).1) (hD x (by simp)).2.1; cases hg)
  subst hB
  have hDe:D=[]:=by simpa using hn
  subst hDe
  have:lr=l:=by
   apply Array.ext hsz
   intro i h1 h2
   have:=hlr i
   simpa [Array.getD_eq_getD_getElem?,h1,h2] using this
  subst this
  have hB:=planB_sound hT hQ (show planB ops [] lr=true from hp) hk ok
  exact hB
 | succ m ih =>
  intro n A l lr D s r a w hm hlr hsz hc hA hM hp hl hD hD1 hD2 hany hn hk ok
  have putD_ne:∀ {i:Nat} {o:Oper} {v:Value} {x:Nat × Nat × Nat},ops[i]?=some o→x∈D→x.1≠i→Rec C ops a w s.h r x→Rec C ops (a.put o.dst v) w s.h r x:=by
   rintro i o v x ho hx hne ⟨ox,d,ch,mm,h1,h2,h3,h4,h5,h6⟩
   refine ⟨ox,d,ch,mm,h1,h2,h3,h4,?_,h6⟩
   obtain ⟨o1,d1,_,_,g1,g2,_,_,g5⟩:=floOk_spec hfl (hD x hx).1
   rw [h1] at g1
   injection g1 with g1
   subst g1
   rw [h2] at g2
   injection g2 with g2
   subst g2
   have hdd:=g5 i o ho (Ne.symm hne)
   rw [← h5]
   cases e:o.dst with
   | none=>rfl
   | some e' =>
    have:e'≠d:=fun e2=>by subst e2; exact hdd e
    simp only [Act.put]
    rw [Array.getD_eq_getD_getElem?,Array.getD_eq_getD_getElem?,Array.getElem?_setIfInBounds_ne this]
  have rec_frm:∀ {h':List (List Seg)} {r':Rho} {w':World} {a':Act} {x:Nat × Nat × Nat},RLe r r'→Frm C q s.h r w h' r' w'→Rec C ops a' w s.h r x→Rec C ops a' w' h' r' x:=by
   rintro h' r' w' a' x hr hF ⟨ox,d,ch,mm,h1,h2,h3,h4,h5,h6,h7,h8,h9,h10⟩
   refine ⟨ox,d,ch,mm,h1,h2,h3,h4,h5,h6.block (hF.ext.block _ h7 h8),Nat.lt_of_lt_of_le h7 hF.ext.size,fun hc=>?_,h9,fun i W ms hi hB=>Classical.byContradiction fun hn=>by
    obtain ⟨j,W',ms',g1,g2,g3⟩:=hF.safe i W ms hi _ h7 hB hn
    exact g3 (h10 j W' ms' g1 g2)⟩
   obtain ⟨i,f,ho,e⟩:=mem_drop.1 hc
   rcases hF.fresh i _ _ ho e with h|h
   ·exact h8 h
   ·omega
  have any_put:∀ {i:Nat} {o:Oper} {x:SV},ops[i]?=some o→∀ j∈AL,(l.setIfInBounds i true).getD j true=false→∀ d,dstOf ops j=some d→(putT o.dst x s.t)[d]?=some .any:=by
   intro i o x ho j hj hf d hd
   have hij:i≠j:=fun e=>by subst e; rw [set_self] at hf; cases hf
   rw [getD_set_ne true hij] at hf
   have h0:=hany j hj hf d hd
   obtain ⟨o1,d1,_,_,g1,g2,_,_,g5⟩:=floOk_spec hfl hj
   have:d1=d:=by
    have:dstOf ops j=some d1:=by simp [dstOf,g1,g2]
    rw [this] at hd; injection hd
   subst this
   have hdd:=g5 i o ho hij
   cases e:o.dst with
   | none=>exact h0
   | some e' =>
    have:e'≠d1:=fun e2=>by subst e2; exact hdd e
    simp only [putT]
    rw [List.getElem?_set_ne this]; exact h0
  cases A with
  | nil =>
   have hDe:D=[]:=by
    cases D with
    | nil=>rfl
    | cons x D=>obtain ⟨g,hg⟩:=hl x.1 (hAL _ (hD x (by simp)).1) (hD x (by simp)).2.1; cases hg
   subst hDe
   have:lr=l:=by
    apply Array.ext hsz
    intro i h1 h2
    have:=hlr i
    simpa [Array.getD_eq_getD_getElem?,h1,h2] using this
   subst this
   have hall:∀ i∈T,lr.getD i true=true:=fun i hi=>by
    cases e:lr.getD i true with
    | true=>rfl
    | false=>obtain ⟨g,hg⟩:=hl i hi e; cases hg
   have hB:=planB_sound hT hQ (show planB ops B lr=true from hp) hk ok
   simp only [List.length_nil,Nat.add_zero,Nat.zero_add] at hn
   subst hn
   exact wpAnyT_end hall hB
  | cons ig A =>
   obtain ⟨i,g⟩:=ig
   have hiT:i∈T:=hA (i,g) (by simp)
   have hA':∀ x∈A,x.1∈T:=fun x hx=>hA x (by simp [hx])
   have hM':∀ x∈A,x.1∈M∨x.2=true∧∀ o,ops[x.1]?=some o→pureOp o.op=true:=fun x hx=>hM x (by simp [hx])
   have hl':∀ j∈T,(l.setIfInBounds i true).getD j true=false→∃ g,(j,g)∈A:=by
    intro j hj hf
    by_cases hji:i=j
    ·subst hji; rw [set_self] at hf; cases hf
    ·rw [getD_set_ne true hji] at hf
     obtain ⟨g',hg⟩:=hl j hj hf
     cases hg with
     | head=>exact absurd rfl hji
     | tail _ hg=>exact ⟨g',hg⟩
   have hDlen:i ∉ D.map (·.1)→D.length≤A.length:=fun hiD=>by
    have:=sub_len (xs:=D.map (·.1)) (ys:=A.map (·.1)) hD1 (fun j hj=>by
     obtain ⟨x,hx,rfl⟩:=List.mem_map.1 hj
     obtain ⟨g',hg⟩:=hl x.1 (hAL _ (hD x hx).1) (hD x hx).2.1
     cases hg with
     | head=>exact absurd hj hiD
     | tail _ hg=>exact List.mem_map.2 ⟨_,hg,rfl⟩)
    simpa using this
   cases g with
   | true =>
    simp only [planOk,Bool.and_eq_true,Bool.not_eq_true'] at hp
    obtain ⟨⟨⟨h0,h1⟩,h2⟩,hp⟩:=hp
    have hiAL:i ∉ AL:=fun hc=>by rw [memB_iff.2 hc] at h0; cases h0
    have hiD:i ∉ D.map (·.1):=fun hc=>by
     obtain ⟨x,hx,rfl⟩:=List.mem_map.1 hc
     exact hiAL (hD x hx).1
    obtain ⟨n,rfl⟩:∃ n',n=n'+1:=⟨n-1,by have:=hDlen hiD; simp only [List.length_cons] at hn; omega⟩
    unfold vcA at hk
    split at hk <;> try exact hk.elim
    rename_i o ho
    split at hk <;> try exact hk.elim
    rename_i hseen
    obtain ⟨v,x,hk,ok',hy⟩:=one_read hT ok hk
    have hin:i∈Region.ready .any ops l:=by simpa using h1
    obtain ⟨r1,oj,r2,r3⟩:=mem_ready.1 hin
    have hlri:lr.getD i true=false:=by rw [hlr,r1]; simpa using hiD
    have hinr:i∈Region.ready .any ops lr:=mem_ready.2 ⟨hlri,oj,r2,fun e he hb=>by
     have:=getD_ff.1 (r3 e he hb)
     exact getD_ff.2 ⟨by rw [hsz]; exact this.1,by rw [hlr,this.2]; rfl⟩⟩
    have fr:∀ j oj',ops[j]?=some oj'→j≠i→lr.getD j true=false→(∀ e∈oj'.after,Region.binds .any e=true→e.on≠i)→o.apart ops oj'=true:=fun j oj' hj hji hf hnot=>Region.free_spec ho h2 j oj' hj hji (by
     rw [hlr] at hf
     rw [Bool.or_eq_false_iff] at hf
     exact hf.1) hnot
    have rest:wpAnyT C.P .any ops Q (Stand C q s.h r w) T n (lr.setIfInBounds i true) (a.put o.dst v) w:=by
     refine ih n (s:=⟨putT o.dst x s.t,s.h⟩) (A:=A) (l:=l.setIfInBounds i true) (D:=D) (by simp only [List.length_cons] at hm; omega) (fun j=>?_) (by simp [hsz]) (hc.set hinr) hA' hM' hp hl' (fun x hx=>?_) hD1 hD2 (any_put ho) (by simp only [List.length_cons] at hn; omega) hk ok'
     ·by_cases hij:i=j
      ·subst hij; rw [set_self,set_self]; rfl
      ·rw [getD_set_ne true hij,getD_set_ne true hij,hlr]
     ·have hxi:x.1≠i:=fun e=>hiD (List.mem_map.2 ⟨x,hx,e⟩)
      exact ⟨(hD x hx).1,by rw [getD_set_ne true (Ne.symm hxi)]; exact (hD x hx).2.1,putD_ne ho hx hxi (hD x hx).2.2⟩
    rcases hM (i,true) (by simp) with hmm|⟨_,hpu⟩
    ·have hy':YieldsIf C.P ops (Stand C q s.h r w) o v a:=by
      rcases hy with ⟨y1,y2⟩|hy
      ·exact .inl ⟨y1,fun w' hs=>y2 w' fun _=>hs.near hq ok.heap hseen⟩
      ·exact .inr hy
     exact wpAnyT_first ho hiT hmm hw (Region.noSelect_spec hns) (fun c a' w'=>hP c a' _ _ w') n lr a w hc fr hinr hy' (Stand.of_quiet ok.heap (Ext.refl _ _)) rest
    ·have hpo:=hpu o ho
     have hy':Yields C.P ops o v a:=by
      rcases hy with ⟨y1,y2⟩|hy
      ·exact .inl ⟨y1,fun w'=>y2 w' fun h=>by rw [hpo] at h; cases h⟩
      ·exact .inr hy
     exact wpAnyT_pure ho (Region.noSelect_spec hns) (fun c a' w'=>hP c a' _ _ w') hiT n lr a w fr hinr hy' (Stand.of_quiet ok.heap (Ext.refl _ _)) rest
   | false =>
    simp only [planOk,Bool.and_eq_true,beq_iff_eq] at hp
    obtain ⟨⟨h1,h2⟩,hp⟩:=hp
    have hin:i∈Region.ready .any ops l:=by simpa using h2
    obtain ⟨r1,oj,r2,r3⟩:=mem_ready.1 hin
    unfold vcA at hk
    split at hk <;> try exact hk.elim
    rename_i o ho
    by_cases hiD:i∈D.map (·.1)
    ·obtain ⟨x,hx,hxi⟩:=List.mem_map.1 hiD
     obtain ⟨hxAL,hxl,hxr⟩:=hD x hx
     obtain ⟨o',d,ch,mm,e1,e2,e3,e4,e5,e6,e7,e8,e9,e10⟩:=hxr
     rw [hxi,ho] at e1
     injection e1 with e1
     subst e1
     obtain ⟨D1,D2,rfl⟩:=List.append_of_mem hx
     obtain ⟨t,h⟩:=s
     have hst:=flo_st e4
     unfold one guard at hk
     rw [e3] at hk
     unfold step at hk
     rw [hst.1,hst.2,Bool.and_false] at hk
     have hk:=putD_eq (flo_step e4 hk)
     rw [e2] at hk
     have ok':=ok.adopt (ops:=ops) e5 e6 e7 e8 e9 e10 (flo_hd e4)
     have hiu:lr.getD i true=true:=by rw [hlr]; simp [hxi]
     refine wpAnyT_mono (fun w' hs=>Stand.weaken (Keeps.snoc _ _) (RLe.snoc _ _) hs) (ih n (A:=A) (l:=l.setIfInBounds i true) (lr:=lr) (D:=D1++D2) (by simp only [List.length_cons] at hm; omega) (fun j=>?_) (by simp [hsz]) hc hA' hM' hp hl' (fun y hy=>?_) (hD1.sublist ((sub_mid D1 D2 x).map _)) (hD2.sublist ((sub_mid D1 D2 x).map _)) ?_ (by simp only [List.length_cons,List.length_append] at hn ⊢; omega) hk ok')
     ·by_cases hij:i=j
      ·subst hij; rw [set_self,hiu]; rfl
      ·rw [getD_set_ne true hij,hlr]
       congr 1
       have:j≠x.1:=fun e=>hij (by rw [e,hxi])
       simp [this]
     ·have hyD:y∈D1++x::D2:=(sub_mid D1 D2 x).subset hy
      have hyi:y.1≠i:=by rw [← hxi]; exact nodup_mid (f:=fun z=>z.1) hD1 hy
      obtain ⟨y1,y2,o2,d2,ch2,m2,g1,g2,g3,g4,g5,g6,g7,g8,g9,g10⟩:=hD y hyD
      refine ⟨y1,by rw [getD_set_ne true (Ne.symm hyi)]; exact y2,o2,d2,ch2,m2,g1,g2,g3,g4,g5,g6,g7,fun hc=>?_,g9,fun i W ms hi hB=>?_⟩
      obtain ⟨k,f,ho,e⟩:=mem_drop.1 hc
      rw [List.getElem?_append] at e
      split at e
      ·exact g8 (mem_drop.2 ⟨k,f,ho,e⟩)
      ·have e:=List.mem_of_getElem? e
       simp only [List.mem_singleton,Prod.mk.injEq] at e
       exact nodup_mid (f:=fun z=>z.2.1) hD2 hy e.1
      ·rcases Nat.lt_trichotomy i h.length with hlt|heq|hgt
       ·rw [List.getElem?_append_left hlt] at hi
        exact g10 i W ms hi hB
       ·subst heq
        have hch:=flo_hd e4
        simp at hi
        rw [hi] at hch
        cases hch
       ·rw [List.getElem?_eq_none (by simp; omega)] at hi; cases hi
     ·have:=any_put (x:=.a (.c (floC mm h.length))) ho
      rw [e2] at this
      exact this
    ·obtain ⟨n,rfl⟩:∃ n',n=n'+1:=⟨n-1,by have:=hDlen hiD; simp only [List.length_cons] at hn; omega⟩
     have hlri:lr.getD i true=false:=by rw [hlr,r1]; simpa using hiD
     have hinr:i∈Region.ready .any ops lr:=mem_ready.2 ⟨hlri,oj,r2,fun e he hb=>by
      have:=getD_ff.1 (r3 e he hb)
      exact getD_ff.2 ⟨by rw [hsz]; exact this.1,by rw [hlr,this.2]; rfl⟩⟩
     refine ⟨(fun h=>by rw [h] at hinr; cases hinr),fun j hj=>?_⟩
     obtain ⟨jf,o2,jo,jall⟩:=mem_ready.1 hj
     have jf':=jf
     rw [hlr,Bool.or_eq_false_iff] at jf'
     by_cases hji:j=i
     ·subst hji
      have hk:one C q ops o s (fun s'=>vcA C q ops A s' fun s'=>vcB C ops B s' K):=hk
      refine wpAnyT_in hiT (wpOp_of ho (one_sound hT ok hk fun x v h' r' w' h1' h2' hr hF=>⟨hF.stand,wpAnyT_mono (fun w'' hs=>hF.stand.trans hr hF.keeps hs) (ih n (A:=A) (l:=l.setIfInBounds j true) (lr:=lr.setIfInBounds j true) (D:=D) (by simp only [List.length_cons] at hm; omega) (fun k=>?_) (by simp [hsz]) (hc.set hj) hA' hM' hp hl' (fun y hy=>?_) hD1 hD2 (any_put ho) (by simp only [List.length_cons] at hn; omega) h1' h2')⟩))
      ·by_cases hij:j=k
       ·subst hij; rw [set_self,set_self]; rfl
       ·rw [getD_set_ne true hij,getD_set_ne true hij,hlr]
      ·have hyi:y.1≠j:=fun e=>hiD (List.mem_map.2 ⟨y,hy,e⟩)
       exact ⟨(hD y hy).1,by rw [getD_set_ne true (Ne.symm hyi)]; exact (hD y hy).2.1,rec_frm hr hF (putD_ne ho hy hyi (hD y hy).2.2)⟩
     ·have hjAL:j∈AL:=by
       apply Classical.byContradiction
       intro hjn
       have:j∈Region.ready .any ops (setAll l (AL.filter fun j=>!(Nat.beq j i))):=by
        refine mem_ready.2 ⟨?_,o2,jo,fun e he hb=>?_⟩
        ·rw [getD_setAll,jf'.1]
         simp [hjn]
        ·have:=getD_ff.1 (jall e he hb)
         refine getD_ff.2 ⟨by rw [size_setAll,← hsz]; exact this.1,?_⟩
         have h3:=this.2
         rw [hlr,Bool.or_eq_true] at h3
         rw [getD_setAll,Bool.or_eq_true]
         rcases h3 with h3|h3
         ·exact .inl h3
         ·refine .inr ?_
          have h3:=of_decide_eq_true h3
          obtain ⟨x,hx,hxe⟩:=List.mem_map.1 h3
          have hne:e.on≠i:=fun hc=>hiD (hc ▸ h3)
          refine decide_eq_true (List.mem_filter.2 ⟨hxe ▸ (hD x hx).1,?_⟩)
          have:Nat.beq e.on i=false:=by
           cases hb':Nat.beq e.on i with
           | false=>rfl
           | true=>exact absurd (Nat.eq_of_beq_eq_true hb') hne
          rw [this]; rfl
       rw [h1] at this
       exact hji (by simpa using this)
      have hjD:j ∉ D.map (·.1):=of_decide_eq_false jf'.2
      obtain ⟨o3,d,ch,mm,g1,g2,g3,g4,_⟩:=floOk_spec hfl hjAL
      obtain ⟨Bb,f,w',hrun,hext,hB1,hB2,hAt⟩:=flo_run hT g4 ok.defers w
      have hd:dstOf ops j=some d:=by simp [dstOf,g1,g2]
      have hsd:=hany j hjAL jf'.1 d hd
      have hdl:d<a.tmps.size:=by
       rw [ok.size]
       rcases Nat.lt_or_ge d s.t.length with h|h
       ·exact h
       ·rw [List.getElem?_eq_none h] at hsd; cases hsd
      have hF:Frm C q s.h r w s.h r w':=⟨hext.nil _,fun i B f ho h=>.inl (mem_drop.2 ⟨i,f,ho,h⟩),Stand.of_quiet ok.heap hext,fun _=>Keeps.refl _,fun i W ms hi B _ h2 h3=>⟨i,W,ms,hi,h2,h3⟩⟩
      have hset:s.t.set d .any=s.t:=by
       apply List.ext_getElem?
       intro k
       by_cases hkd:d=k
       ·subst hkd; rw [List.getElem?_set_self',hsd]; rfl
       ·rw [List.getElem?_set_ne hkd]
      have ok':Ok C s r (a.put o3.dst (floV mm Bb f)) w':=by
       have:=ok.put (RLe.refl _) (ok.heap.ext0 hext) (x:=.any) (v:=floV mm Bb f) trivial d
       rw [hset] at this
       rw [g2]
       exact this
      have hrb:∀ B',B'∈(r.drop C.ro).map (·.1)→B'<w.heap.size:=by
       intro B' hB'
       obtain ⟨k,f',ho,e⟩:=mem_drop.1 hB'
       exact ok.heap.lt k _ _ ho e
      refine wpAnyT_in (hAL j hjAL) (wpOp_of g1 ?_)
      rw [if_pos (by simp [Region.wanted,g3])]
      unfold Oper.wp
      rw [hrun o3 rfl]
      refine ⟨hF.stand,wpAnyT_mono (fun w'' hs=>hF.stand.trans (RLe.refl _) hF.keeps hs) (ih n (A:=(i,false)::A) (l:=l) (lr:=lr.setIfInBounds j true) (D:=(j,Bb,f)::D) (by simp only [List.length_cons] at hm ⊢; omega) (fun k=>?_) (by simp [hsz]) (hc.set hj) hA hM ?_ hl (fun y hy=>?_) ?_ ?_ hany (by simp only [List.length_cons] at hn ⊢; omega) ?_ ok')⟩
      ·by_cases hjk:j=k
       ·subst hjk; rw [set_self]; simp
       ·rw [getD_set_ne true hjk,hlr]
        congr 1
        have:k≠j:=fun e=>hjk e.symm
        simp [this]
      ·simp only [planOk,Bool.and_eq_true,beq_iff_eq]
       exact ⟨⟨h1,h2⟩,hp⟩
      ·cases hy with
       | head =>
        refine ⟨hjAL,jf'.1,o3,d,ch,mm,g1,g2,g3,g4,?_,hAt,hB2,fun hc=>?_,Nat.le_trans ok.heap.ext.size hB1,fun i W ms hi hB=>?_⟩
        ·rw [g2]
         simp only [Act.put]
         simp [hdl]
        ·have:Bb<w.heap.size:=hrb _ hc
         omega
        ·have:=(ok.heap.past i W ms hi).1.size
         have hB:Bb<W.heap.size:=hB
         omega
       | tail _ hy =>
        have hyj:y.1≠j:=fun e=>hjD (List.mem_map.2 ⟨y,hy,e⟩)
        exact ⟨(hD y hy).1,(hD y hy).2.1,rec_frm (RLe.refl _) hF (putD_ne g1 hy hyj (hD y hy).2.2)⟩
      ·exact List.nodup_cons.2 ⟨hjD,hD1⟩
      ·refine List.nodup_cons.2 ⟨fun hc=>?_,hD2⟩
       obtain ⟨y,hy,hye⟩:=List.mem_map.1 hc
       obtain ⟨_,_,_,_,_,_,_,_,_,_,_,_,g7,_,_,_⟩:=hD y hy
       rw [hye] at g7
       have g7:Bb<w.heap.size:=g7
       omega
      ·unfold vcA
       rw [ho]
       exact hk
theorem planT_sound {K:St→Prop} {q:Keep} (hq:q.binds=true) (hT:AllT C.P C.T) (hP:PanicOk Q) {B T M:List Nat} (hns:Region.noSelect ops=true) (hw:Region.waitsM .any ops T M=true)
  (hQ:∀ s' r' a' w',K s'→Ok C s' r' a' w'→Q .normal a' w') :
  ∀ (t:PT) {l:Array Bool} {s:St} {r:Rho} {a:Act} {w:World},planT ops T M B t l=true→Region.Closed .any ops l→vcT C q ops B t s K→Ok C s r a w →
   wpAnyT C.P .any ops Q (Stand C q s.h r w) T (ptLen t+B.length) l a w
 | .nil,l,s,r,a,w,hp,hc,hk,ok=>by
  simp only [planT,Bool.and_eq_true] at hp
  refine wpAnyT_end (fun i hi=>List.all_eq_true.1 hp.2 i hi) ?_
  show wpAny C.P .any ops Q (0+B.length) l a w
  rw [Nat.zero_add]
  exact planB_sound hT hQ hp.1 hk ok
 | .rd i t,l,s,r,a,w,hp,hc,hk,ok=>by
  simp only [planT,Bool.and_eq_true,Bool.or_eq_true] at hp
  obtain ⟨⟨⟨⟨h1,h2⟩,h3⟩,h4⟩,hp⟩:=hp
  have hiT:=memB_iff.1 h3
  unfold vcT at hk
  split at hk <;> try exact hk.elim
  rename_i o ho
  split at hk <;> try exact hk.elim
  rename_i hseen
  obtain ⟨v,x,hk,ok',hy⟩:=one_read hT ok hk
  have hin:i∈Region.ready .any ops l:=by simpa using h1
  have fr:∀ j oj',ops[j]?=some oj'→j≠i→l.getD j true=false→(∀ e∈oj'.after,Region.binds .any e=true→e.on≠i)→o.apart ops oj'=true:=fun j oj' hj hji hf hnot=>Region.free_spec ho h2 j oj' hj hji hf hnot
  have rest:wpAnyT C.P .any ops Q (Stand C q s.h r w) T (ptLen t+B.length) (l.setIfInBounds i true) (a.put o.dst v) w :=
   planT_sound hq hT hP hns hw hQ t (s:=⟨putT o.dst x s.t,s.h⟩) hp (hc.set hin) hk ok'
  show wpAnyT C.P .any ops Q (Stand C q s.h r w) T (ptLen t+1+B.length) l a w
  rw [show ptLen t+1+B.length=ptLen t+B.length+1 by omega]
  rcases h4 with hmm|hpu
  ·have hy':YieldsIf C.P ops (Stand C q s.h r w) o v a:=by
    rcases hy with ⟨y1,y2⟩|hy
    ·exact .inl ⟨y1,fun w' hs=>y2 w' fun _=>hs.near hq ok.heap hseen⟩
    ·exact .inr hy
   exact wpAnyT_first ho hiT (memB_iff.1 hmm) hw (Region.noSelect_spec hns) (fun c a' w'=>hP c a' _ _ w') _ l a w hc fr hin hy' (Stand.of_quiet ok.heap (Ext.refl _ _)) rest
  ·have hpo:pureOp o.op=true:=by
    unfold pureAt at hpu
    rw [ho] at hpu
    exact hpu
   have hy':Yields C.P ops o v a:=by
    rcases hy with ⟨y1,y2⟩|hy
    ·exact .inl ⟨y1,fun w'=>y2 w' fun h=>by rw [hpo] at h; cases h⟩
    ·exact .inr hy
   exact wpAnyT_pure ho (Region.noSelect_spec hns) (fun c a' w'=>hP c a' _ _ w') hiT _ l a w fr hin hy' (Stand.of_quiet ok.heap (Ext.refl _ _)) rest
 | .one i t,l,s,r,a,w,hp,hc,hk,ok=>by
  simp only [planT,Bool.and_eq_true,beq_iff_eq] at hp
  obtain ⟨⟨h1,h3⟩,hp⟩:=hp
  have hiT:=memB_iff.1 h3
  unfold vcT at hk
  split at hk <;> try exact hk.elim
  rename_i o ho
  have hin:i∈Region.ready .any ops l:=by rw [h1]; simp
  show wpAnyT C.P .any ops Q (Stand C q s.h r w) T (ptLen t+1+B.length) l a w
  rw [show ptLen t+1+B.length=ptLen t+B.length+1 by omega]
  refine ⟨(fun h=>by rw [h] at hin; cases hin),fun j hj=>?_⟩
  rw [h1] at hj
  obtain rfl:j=i:=by simpa using hj
  exact wpAnyT_in hiT (wpOp_of ho (one_sound hT ok hk fun x v h' r' w' h1' h2' hr hF=>⟨hF.stand,wpAnyT_mono (fun w'' hs=>hF.stand.trans hr hF.keeps hs) (planT_sound hq hT hP hns hw hQ t hp (hc.set hin) h1' h2')⟩))
 | .alt i j t u,l,s,r,a,w,hp,hc,hk,ok=>by
  simp only [planT,Bool.and_eq_true,beq_iff_eq] at hp
  obtain ⟨⟨⟨⟨⟨h1,h3⟩,h4⟩,h5⟩,hp⟩,hp'⟩:=hp
  have h5:=Nat.eq_of_beq_eq_true h5
  have hiT:=memB_iff.1 h3
  have hjT:=memB_iff.1 h4
  unfold vcT at hk
  obtain ⟨hk,hk'⟩:=hk
  have hin:i∈Region.ready .any ops l:=by rw [h1]; simp
  have hjn:j∈Region.ready .any ops l:=by rw [h1]; simp
  show wpAnyT C.P .any ops Q (Stand C q s.h r w) T (ptLen t+1+B.length) l a w
  rw [show ptLen t+1+B.length=ptLen t+B.length+1 by omega]
  refine ⟨(fun h=>by rw [h] at hin; cases hin),fun k hkk=>?_⟩
  rw [h1] at hkk
  have hkk:k=i∨k=j:=by simpa using hkk
  rcases hkk with rfl|rfl
  ·split at hk <;> try exact hk.elim
   rename_i o ho
   exact wpAnyT_in hiT (wpOp_of ho (one_sound hT ok hk fun x v h' r' w' h1' h2' hr hF=>⟨hF.stand,wpAnyT_mono (fun w'' hs=>hF.stand.trans hr hF.keeps hs) (planT_sound hq hT hP hns hw hQ t hp (hc.set hin) h1' h2')⟩))
  ·split at hk' <;> try exact hk'.elim
   rename_i o ho
   rw [h5]
   exact wpAnyT_in hjT (wpOp_of ho (one_sound hT ok hk' fun x v h' r' w' h1' h2' hr hF=>⟨hF.stand,wpAnyT_mono (fun w'' hs=>hF.stand.trans hr hF.keeps hs) (planT_sound hq hT hP hns hw hQ u hp' (hc.set hjn) h1' h2')⟩))
theorem ptIds_len:∀ t:PT,(ptIds t).length=ptLen t
 | .nil=>rfl
 | .rd _ t=>congrArg (·+1) (ptIds_len t)
 | .one _ t=>congrArg (·+1) (ptIds_len t)
 | .alt _ _ t _=>congrArg (·+1) (ptIds_len t)
theorem planTA_cov {ops:Array Oper} {AL T M B:List Nat} {t:PT} {l:Array Bool} (h:planTA ops AL T M B t l=true) (i:Nat) (hi:i∈T) (hf:l.getD i true=false):i∈ptIds t:=by
 have:covT T t l=true:=by
  cases t <;> simp only [planTA,Bool.and_eq_true] at h
  ·exact h.2
  ·exact h.1.2
  ·exact h.1.2
  ·exact h.1.1.2
 have:=List.all_eq_true.1 this i hi
 rw [hf,Bool.false_or] at this
 exact memB_iff.1 this
theorem planTA_sound {K:St→Prop} {q:Keep} (hq:q.binds=true) (hT:AllT C.P C.T) (hP:PanicOk Q) {AL B:List Nat} {T M:List Nat} (hfl:floOk C.T ops AL=true) (hAL:∀ j∈AL,j∈T) (hns:Region.noSelect ops=true) (hw:Region.waitsM .any ops T M=true)
  (hQ:∀ s' r' a' w',K s'→Ok C s' r' a' w'→Q .normal a' w') :
  ∀ (m n:Nat) {A:PT} {l lr:Array Bool} {D:List (Nat × Nat × Nat)} {s:St} {r:Rho} {a:Act} {w:World},n+ptLen A≤m →
   (∀ j,lr.getD j true=(l.getD j true || decide (j∈D.map (·.1))))→lr.size=l.size→Region.Closed .any ops lr→planTA ops AL T M B A l=true →
   (∀ x∈D,x.1∈AL∧l.getD x.1 true=false∧Rec C ops a w s.h r x)→(D.map (·.1)).Nodup→(D.map (·.2.1)).Nodup →
   (∀ j∈AL,l.getD j true=false→∀ d,dstOf ops j=some d→s.t[d]?=some .any)→n+D.length=ptLen A+B.length →
   vcT C q ops B A s K→Ok C s r a w→wpAnyT C.P .any ops Q (Stand C q s.h r w) T n lr a w:=by
 intro m
 induction m with
 | zero =>
  intro n A l lr D s r a w hm hlr hsz hc hp hD hD1 hD2 hany hn hk ok
  have hA:A=.nil:=by cases A <;> first|rfl|(simp only [ptLen] at hm; omega)
  subst hA
  obtain rfl:n=0:=by omega
  have hcov:=planTA_cov hp
  have hB:B=[]:=List.eq_nil_of_length_eq_zero (by
   cases D with
   | nil=>simp [ptLen] at hn; simp [hn]
   | cons x D=>exact absurd (hcov x.1 (hAL _ (hD x (by simp)).1) (hD x (by simp)).2.1) (by simp [ptIds]))
  subst hB
  have hDe:D=[]:=by simpa [ptLen] using hn
  subst hDe
  have:lr=l:=by
   apply Array.ext hsz
   intro i h1 h2
   have:=hlr i
   simpa [Array.getD_eq_getD_getElem?,h1,h2] using this
  subst this
  simp only [planTA,Bool.and_eq_true] at hp
  exact planB_sound hT hQ (show planB ops [] lr=true from hp.1) hk ok
 | succ m ih =>
  intro n A l lr D s r a w hm hlr hsz hc hp hD hD1 hD2 hany hn hk ok
  have hcov:=planTA_cov hp
  have putD_ne:∀ {i:Nat} {o:Oper} {v:Value} {x:Nat × Nat × Nat},ops[i]?=some o→x∈D→x.1≠i→Rec C ops a w s.h r x→Rec C ops (a.put o.dst v) w s.h r x:=by
   rintro i o v x ho hx hne ⟨ox,d,ch,mm,h1,h2,h3,h4,h5,h6⟩
   refine ⟨ox,d,ch,mm,h1,h2,h3,h4,?_,h6⟩
   obtain ⟨o1,d1,_,_,g1,g2,_,_,g5⟩:=floOk_spec hfl (hD x hx).1
   rw [h1] at g1
   injection g1 with g1
   subst g1
   rw [h2] at g2
   injection g2 with g2
   subst g2
   have hdd:=g5 i o ho (Ne.symm hne)
   rw [← h5]
   cases e:o.dst with
   | none=>rfl
   | some e' =>
    have:e'≠d:=fun e2=>by subst e2; exact hdd e
    simp only [Act.put]
    rw [Array.getD_eq_getD_getElem?,Array.getD_eq_getD_getElem?,Array.getElem?_setIfInBounds_ne this]
  have rec_frm:∀ {h':List (List Seg)} {r':Rho} {w':World} {a':Act} {x:Nat × Nat × Nat},RLe r r'→Frm C q s.h r w h' r' w'→Rec C ops a' w s.h r x→Rec C ops a' w' h' r' x:=by
   rintro h' r' w' a' x hr hF ⟨ox,d,ch,mm,h1,h2,h3,h4,h5,h6,h7,h8,h9,h10⟩
   refine ⟨ox,d,ch,mm,h1,h2,h3,h4,h5,h6.block (hF.ext.block _ h7 h8),Nat.lt_of_lt_of_le h7 hF.ext.size,fun hc=>?_,h9,fun i W ms hi hB=>Classical.byContradiction fun hn=>by
    obtain ⟨j,W',ms',g1,g2,g3⟩:=hF.safe i W ms hi _ h7 hB hn
    exact g3 (h10 j W' ms' g1 g2)⟩
   obtain ⟨i,f,ho,e⟩:=mem_drop.1 hc
   rcases hF.fresh i _ _ ho e with h|h
   ·exact h8 h
   ·omega
  have any_put:∀ {i:Nat} {o:Oper} {x:SV},ops[i]?=some o→∀ j∈AL,(l.setIfInBounds i true).getD j true=false→∀ d,dstOf ops j=some d→(putT o.dst x s.t)[d]?=some .any:=by
   intro i o x ho j hj hf d hd
   have hij:i≠j:=fun e=>by subst e; rw [set_self] at hf; cases hf
   rw [getD_set_ne true hij] at hf
   have h0:=hany j hj hf d hd
   obtain ⟨o1,d1,_,_,g1,g2,_,_,g5⟩:=floOk_spec hfl hj
   have:d1=d:=by
    have:dstOf ops j=some d1:=by simp [dstOf,g1,g2]
    rw [this] at hd; injection hd
   subst this
   have hdd:=g5 i o ho hij
   cases e:o.dst with
   | none=>exact h0
   | some e' =>
    have:e'≠d1:=fun e2=>by subst e2; exact hdd e
    simp only [putT]
    rw [List.getElem?_set_ne this]; exact h0
  have hDlen:∀ {i:Nat} {L:List Nat},ptIds A=i::L→i ∉ D.map (·.1)→D.length≤L.length:=fun {i L} hL hiD=>by
   have:=sub_len (xs:=D.map (·.1)) (ys:=L) hD1 (fun j hj=>by
    obtain ⟨x,hx,rfl⟩:=List.mem_map.1 hj
    have:=hcov x.1 (hAL _ (hD x hx).1) (hD x hx).2.1
    rw [hL] at this
    cases this with
    | head=>exact absurd hj hiD
    | tail _ hg=>exact hg)
   simpa using this
  have hrb:∀ B',B'∈(r.drop C.ro).map (·.1)→B'<w.heap.size:=by
   intro B' hB'
   obtain ⟨k,f',ho,e⟩:=mem_drop.1 hB'
   exact ok.heap.lt k _ _ ho e
  have early:∀ n',n=n'+1→∀ j,j∈Region.ready .any ops lr→j∈AL→wpOp C.P ops Q j (fun a' w'=>if T.contains j=true then Stand C q s.h r w w'∧wpAnyT C.P .any ops Q (Stand C q s.h r w) T n' (lr.setIfInBounds j true) a' w' else wpAny C.P .any ops Q n' (lr.setIfInBounds j true) a' w') a w:=by
   rintro n' rfl j hj hjAL
   obtain ⟨jf,o2,jo,jall⟩:=mem_ready.1 hj
   have jf':=jf
   rw [hlr,Bool.or_eq_false_iff] at jf'
   have hjD:j ∉ D.map (·.1):=of_decide_eq_false jf'.2
   obtain ⟨o3,d,ch,mm,g1,g2,g3,g4,_⟩:=floOk_spec hfl hjAL
   obtain ⟨Bb,f,w',hrun,hext,hB1,hB2,hAt⟩:=flo_run hT g4 ok.defers w
   have hd:dstOf ops j=some d:=by simp [dstOf,g1,g2]
   have hsd:=hany j hjAL jf'.1 d hd
   have hdl:d<a.tmps.size:=by
    rw [ok.size]
    rcases Nat.lt_or_ge d s.t.length with h|h
    ·exact h
    ·rw [List.getElem?_eq_none h] at hsd; cases hsd
   have hF:Frm C q s.h r w s.h r w':=⟨hext.nil _,fun i B f ho h=>.inl (mem_drop.2 ⟨i,f,ho,h⟩),Stand.of_quiet ok.heap hext,fun _=>Keeps.refl _,fun i W ms hi B _ h2 h3=>⟨i,W,ms,hi,h2,h3⟩⟩
   have hset:s.t.set d .any=s.t:=by
    apply List.ext_getElem?
    intro k
    by_cases hkd:d=k
    ·subst hkd; rw [List.getElem?_set_self',hsd]; rfl
    ·rw [List.getElem?_set_ne hkd]
   have ok':Ok C s r (a.put o3.dst (floV mm Bb f)) w':=by
    have:=ok.put (RLe.refl _) (ok.heap.ext0 hext) (x:=.any) (v:=floV mm Bb f) trivial d
    rw [hset] at this
    rw [g2]
    exact this
   refine wpAnyT_in (hAL j hjAL) (wpOp_of g1 ?_)
   rw [if_pos (by simp [Region.wanted,g3])]
   unfold Oper.wp
   rw [hrun o3 rfl]
   refine ⟨hF.stand,wpAnyT_mono (fun w'' hs=>hF.stand.trans (RLe.refl _) hF.keeps hs) (ih n' (A:=A) (l:=l) (lr:=lr.setIfInBounds j true) (D:=(j,Bb,f)::D) (by omega) (fun k=>?_) (by simp [hsz]) (hc.set hj) hp (fun y hy=>?_) ?_ ?_ hany (by simp only [List.length_cons]; omega) hk ok')⟩
   ·by_cases hjk:j=k
    ·subst hjk; rw [set_self]; simp
    ·rw [getD_set_ne true hjk,hlr]
     congr 1
     have:k≠j:=fun e=>hjk e.symm
     simp [this]
   ·cases hy with
    | head =>
     refine ⟨hjAL,jf'.1,o3,d,ch,mm,g1,g2,g3,g4,?_,hAt,hB2,fun hc=>?_,Nat.le_trans ok.heap.ext.size hB1,fun i W ms hi hB=>?_⟩
     ·rw [g2]
      simp only [Act.put]
      simp [hdl]
     ·have:Bb<w.heap.size:=hrb _ hc
      omega
     ·have:=(ok.heap.past i W ms hi).1.size
      have hB:Bb<W.heap.size:=hB
      omega
    | tail _ hy =>
     have hyj:y.1≠j:=fun e=>hjD (List.mem_map.2 ⟨y,hy,e⟩)
     exact ⟨(hD y hy).1,(hD y hy).2.1,rec_frm (RLe.refl _) hF (putD_ne g1 hy hyj (hD y hy).2.2)⟩
   ·exact List.nodup_cons.2 ⟨hjD,hD1⟩
   ·refine List.nodup_cons.2 ⟨fun hc=>?_,hD2⟩
    obtain ⟨y,hy,hye⟩:=List.mem_map.1 hc
    obtain ⟨_,_,_,_,_,_,_,_,_,_,_,_,g7,_,_,_⟩:=hD y hy
    rw [hye] at g7
    have g7:Bb<w.heap.size:=g7
    omega
  have lrset:∀ {i:Nat} (j:Nat),(lr.setIfInBounds i true).getD j true=((l.setIfInBounds i true).getD j true || decide (j∈D.map (·.1))):=fun {i} j=>by
   by_cases hij:i=j
   ·subst hij; rw [set_self,set_self]; rfl
   ·rw [getD_set_ne true hij,getD_set_ne true hij,hlr]
  have inlr:∀ {i:Nat},i∈Region.ready .any ops l→i ∉ D.map (·.1)→i∈Region.ready .any ops lr:=fun {i} hin hiD=>by
   obtain ⟨r1,oj,r2,r3⟩:=mem_ready.1 hin
   exact mem_ready.2 ⟨by rw [hlr,r1]; simpa using hiD,oj,r2,fun e he hb=>by
    have:=getD_ff.1 (r3 e he hb)
    exact getD_ff.2 ⟨by rw [hsz]; exact this.1,by rw [hlr,this.2]; rfl⟩⟩
  have outAL:∀ {F:Nat→Bool} {j:Nat},j∈Region.ready .any ops lr→j ∉ AL→(∀ k,k∈D.map (·.1)→F k=true)→j∈Region.ready .any ops (setAll l (AL.filter F)):=fun {F j} hj hjn hF=>by
   obtain ⟨jf,o2,jo,jall⟩:=mem_ready.1 hj
   rw [hlr,Bool.or_eq_false_iff] at jf
   refine mem_ready.2 ⟨?_,o2,jo,fun e he hb=>?_⟩
   ·rw [getD_setAll,jf.1]
    simp [hjn]
   ·have:=getD_ff.1 (jall e he hb)
    refine getD_ff.2 ⟨by rw [size_setAll,← hsz]; exact this.1,?_⟩
    have h3:=this.2
    rw [hlr,Bool.or_eq_true] at h3
    rw [getD_setAll,Bool.or_eq_true]
    rcases h3 with h3|h3
    ·exact .inl h3
    ·refine .inr ?_
     have h3:=of_decide_eq_true h3
     obtain ⟨x,hx,hxe⟩:=List.mem_map.1 h3
     exact decide_eq_true (List.mem_filter.2 ⟨hxe ▸ (hD x hx).1,hF _ h3⟩)
  have dkeep:∀ {i:Nat} {o:Oper} {v:Value} {h':List (List Seg)} {r':Rho} {w':World},ops[i]?=some o→i ∉ D.map (·.1)→RLe r r'→Frm C q s.h r w h' r' w'→∀ y∈D,y.1∈AL∧(l.setIfInBounds i true).getD y.1 true=false∧Rec C ops (a.put o.dst v) w' h' r' y:=fun {i o v h' r' w'} ho hiD hr hF y hy=>by
   have hyi:y.1≠i:=fun e=>hiD (List.mem_map.2 ⟨y,hy,e⟩)
   exact ⟨(hD y hy).1,by rw [getD_set_ne true (Ne.symm hyi)]; exact (hD y hy).2.1,rec_frm hr hF (putD_ne ho hy hyi (hD y hy).2.2)⟩
  cases A with
  | nil =>
   have hDe:D=[]:=by
    cases D with
    | nil=>rfl
    | cons x D=>exact absurd (hcov x.1 (hAL _ (hD x (by simp)).1) (hD x (by simp)).2.1) (by simp [ptIds])
   subst hDe
   have:lr=l:=by
    apply Array.ext hsz
    intro i h1 h2
    have:=hlr i
    simpa [Array.getD_eq_getD_getElem?,h1,h2] using this
   subst this
   have hall:∀ i∈T,lr.getD i true=true:=fun i hi=>by
    cases e:lr.getD i true with
    | true=>rfl
    | false=>exact absurd (hcov i hi e) (by simp [ptIds])
   simp only [planTA,Bool.and_eq_true] at hp
   have hB:=planB_sound hT hQ (show planB ops B lr=true from hp.1) hk ok
   simp only [ptLen,List.length_nil,Nat.add_zero,Nat.zero_add] at hn
   subst hn
   exact wpAnyT_end hall hB
  | rd i A =>
   simp only [planTA,Bool.and_eq_true,Bool.or_eq_true,Bool.not_eq_true'] at hp
   obtain ⟨⟨⟨⟨⟨⟨h0,h1⟩,h2⟩,h3⟩,h4⟩,_⟩,hp⟩:=hp
   have hiT:=memB_iff.1 h3
   have hiAL:i ∉ AL:=fun hc=>by rw [memB_iff.2 hc] at h0; cases h0
   have hiD:i ∉ D.map (·.1):=fun hc=>by
    obtain ⟨x,hx,rfl⟩:=List.mem_map.1 hc
    exact hiAL (hD x hx).1
   simp only [ptLen] at hn hm
   obtain ⟨n,rfl⟩:∃ n',n=n'+1:=⟨n-1,by have:=hDlen rfl hiD; rw [ptIds_len] at this; omega⟩
   unfold vcT at hk
   split at hk <;> try exact hk.elim
   rename_i o ho
   split at hk <;> try exact hk.elim
   rename_i hseen
   obtain ⟨v,x,hk,ok',hy⟩:=one_read hT ok hk
   have hin:i∈Region.ready .any ops l:=by simpa using h1
   have hinr:=inlr hin hiD
   have fr:∀ j oj',ops[j]?=some oj'→j≠i→lr.getD j true=false→(∀ e∈oj'.after,Region.binds .any e=true→e.on≠i)→o.apart ops oj'=true:=fun j oj' hj hji hf hnot=>Region.free_spec ho h2 j oj' hj hji (by
    rw [hlr] at hf
    rw [Bool.or_eq_false_iff] at hf
    exact hf.1) hnot
   have rest:wpAnyT C.P .any ops Q (Stand C q s.h r w) T n (lr.setIfInBounds i true) (a.put o.dst v) w :=
    ih n (s:=⟨putT o.dst x s.t,s.h⟩) (A:=A) (l:=l.setIfInBounds i true) (D:=D) (by omega) lrset (by simp [hsz]) (hc.set hinr) hp (fun x hx=>by
     have hxi:x.1≠i:=fun e=>hiD (List.mem_map.2 ⟨x,hx,e⟩)
     exact ⟨(hD x hx).1,by rw [getD_set_ne true (Ne.symm hxi)]; exact (hD x hx).2.1,putD_ne ho hx hxi (hD x hx).2.2⟩) hD1 hD2 (any_put ho) (by omega) hk ok'
   rcases h4 with hmm|hpu
   ·have hy':YieldsIf C.P ops (Stand C q s.h r w) o v a:=by
     rcases hy with ⟨y1,y2⟩|hy
     ·exact .inl ⟨y1,fun w' hs=>y2 w' fun _=>hs.near hq ok.heap hseen⟩
     ·exact .inr hy
    exact wpAnyT_first ho hiT (memB_iff.1 hmm) hw (Region.noSelect_spec hns) (fun c a' w'=>hP c a' _ _ w') n lr a w hc fr hinr hy' (Stand.of_quiet ok.heap (Ext.refl _ _)) rest
   ·have hpo:pureOp o.op=true:=by
     unfold pureAt at hpu
     rw [ho] at hpu
     exact hpu
    have hy':Yields C.P ops o v a:=by
     rcases hy with ⟨y1,y2⟩|hy
     ·exact .inl ⟨y1,fun w'=>y2 w' fun h=>by rw [hpo] at h; cases h⟩
     ·exact .inr hy
    exact wpAnyT_pure ho (Region.noSelect_spec hns) (fun c a' w'=>hP c a' _ _ w') hiT n lr a w fr hinr hy' (Stand.of_quiet ok.heap (Ext.refl _ _)) rest
  | one i A =>
   have hp0:=hp
   have hk0:=hk
   simp only [planTA,Bool.and_eq_true,beq_iff_eq] at hp
   obtain ⟨⟨⟨⟨h1,h2⟩,h3⟩,_⟩,hp⟩:=hp
   have hiT:=memB_iff.1 h3
   have hin:i∈Region.ready .any ops l:=by simpa using h2
   simp only [ptLen] at hn hm
   unfold vcT at hk
   split at hk <;> try exact hk.elim
   rename_i o ho
   by_cases hiD:i∈D.map (·.1)
   ·obtain ⟨x,hx,hxi⟩:=List.mem_map.1 hiD
    obtain ⟨hxAL,hxl,hxr⟩:=hD x hx
    obtain ⟨o',d,ch,mm,e1,e2,e3,e4,e5,e6,e7,e8,e9,e10⟩:=hxr
    rw [hxi,ho] at e1
    injection e1 with e1
    subst e1
    obtain ⟨D1,D2,rfl⟩:=List.append_of_mem hx
    obtain ⟨t,h⟩:=s
    have hst:=flo_st e4
    unfold one guard at hk
    rw [e3] at hk
    unfold step at hk
    rw [hst.1,hst.2,Bool.and_false] at hk
    have hk:=putD_eq (flo_step e4 hk)
    rw [e2] at hk
    have ok':=ok.adopt (ops:=ops) e5 e6 e7 e8 e9 e10 (flo_hd e4)
    have hiu:lr.getD i true=true:=by rw [hlr]; simp [hxi]
    refine wpAnyT_mono (fun w' hs=>Stand.weaken (Keeps.snoc _ _) (RLe.snoc _ _) hs) (ih n (A:=A) (l:=l.setIfInBounds i true) (lr:=lr) (D:=D1++D2) (by omega) (fun j=>?_) (by simp [hsz]) hc hp (fun y hy=>?_) (hD1.sublist ((sub_mid D1 D2 x).map _)) (hD2.sublist ((sub_mid D1 D2 x).map _)) ?_ (by simp only [List.length_cons,List.length_append] at hn ⊢; omega) hk ok')
    ·by_cases hij:i=j
     ·subst hij; rw [set_self,hiu]; rfl
     ·rw [getD_set_ne true hij,hlr]
      congr 1
      have:j≠x.1:=fun e=>hij (by rw [e,hxi])
      simp [this]
    ·have hyD:y∈D1++x::D2:=(sub_mid D1 D2 x).subset hy
     have hyi:y.1≠i:=by rw [← hxi]; exact nodup_mid (f:=fun z=>z.1) hD1 hy
     obtain ⟨y1,y2,o2,d2,ch2,m2,g1,g2,g3,g4,g5,g6,g7,g8,g9,g10⟩:=hD y hyD
     refine ⟨y1,by rw [getD_set_ne true (Ne.symm hyi)]; exact y2,o2,d2,ch2,m2,g1,g2,g3,g4,g5,g6,g7,fun hc=>?_,g9,fun i W ms hi hB=>?_⟩
     obtain ⟨k,f,ho,e⟩:=mem_drop.1 hc
     rw [List.getElem?_append] at e
     split at e
     ·exact g8 (mem_drop.2 ⟨k,f,ho,e⟩)
     ·have e:=List.mem_of_getElem? e
      simp only [List.mem_singleton,Prod.mk.injEq] at e
      exact nodup_mid (f:=fun z=>z.2.1) hD2 hy e.1
     ·rcases Nat.lt_trichotomy i h.length with hlt|heq|hgt
      ·rw [List.getElem?_append_left hlt] at hi
       exact g10 i W ms hi hB
      ·subst heq
       have hch:=flo_hd e4
       simp at hi
       rw [hi] at hch
       cases hch
      ·rw [List.getElem?_eq_none (by simp; omega)] at hi; cases hi
    ·have:=any_put (x:=.a (.c (floC mm h.length))) ho
     rw [e2] at this
     exact this
   ·obtain ⟨n,rfl⟩:∃ n',n=n'+1:=⟨n-1,by have:=hDlen rfl hiD; rw [ptIds_len] at this; omega⟩
    have hinr:=inlr hin hiD
    refine ⟨(fun h=>by rw [h] at hinr; cases hinr),fun j hj=>?_⟩
    by_cases hji:j=i
    ·subst hji
     exact wpAnyT_in hiT (wpOp_of ho (one_sound hT ok hk fun x v h' r' w' h1' h2' hr hF=>⟨hF.stand,wpAnyT_mono (fun w'' hs=>hF.stand.trans hr hF.keeps hs) (ih n (A:=A) (l:=l.setIfInBounds j true) (lr:=lr.setIfInBounds j true) (D:=D) (by omega) lrset (by simp [hsz]) (hc.set hj) hp (dkeep ho hiD hr hF) hD1 hD2 (any_put ho) (by omega) h1' h2')⟩))
    ·refine early n rfl j hj (Classical.byContradiction fun hjn=>?_)
     have:=outAL (F:=fun j=>!(Nat.beq j i)) hj hjn (fun k hk=>by
      cases hb':Nat.beq k i with
      | false=>rfl
      | true=>exact absurd (Nat.eq_of_beq_eq_true hb' ▸ hk) hiD)
     rw [h1] at this
     exact hji (by simpa using this)
  | alt i i2 A U =>
   simp only [planTA,Bool.and_eq_true,beq_iff_eq,Bool.not_eq_true'] at hp
   obtain ⟨⟨⟨⟨⟨⟨⟨⟨⟨h0',h1⟩,h2⟩,h2'⟩,h3⟩,h3'⟩,h5⟩,_⟩,hp⟩,hp'⟩:=hp
   have h5:=Nat.eq_of_beq_eq_true h5
   have hiT:=memB_iff.1 h3
   have hiT':=memB_iff.1 h3'
   have hiD':i2 ∉ D.map (·.1):=fun hc=>by
    obtain ⟨x,hx,rfl⟩:=List.mem_map.1 hc
    rw [memB_iff.2 (hD x hx).1] at h0'; cases h0'
   have hin:i∈Region.ready .any ops l:=by simpa using h2
   have hin':i2∈Region.ready .any ops l:=by simpa using h2'
   simp only [ptLen] at hn hm
   unfold vcT at hk
   obtain ⟨hk,hk'⟩:=hk
   split at hk <;> try exact hk.elim
   rename_i o ho
   by_cases hiD:i∈D.map (·.1)
   ·obtain ⟨x,hx,hxi⟩:=List.mem_map.1 hiD
    obtain ⟨hxAL,hxl,hxr⟩:=hD x hx
    obtain ⟨o',d,ch,mm,e1,e2,e3,e4,e5,e6,e7,e8,e9,e10⟩:=hxr
    rw [hxi,ho] at e1
    injection e1 with e1
    subst e1
    obtain ⟨D1,D2,rfl⟩:=List.append_of_mem hx
    obtain ⟨t,h⟩:=s
    have hst:=flo_st e4
    unfold one guard at hk
    rw [e3] at hk
    unfold step at hk
    rw [hst.1,hst.2,Bool.and_false] at hk
    have hk:=putD_eq (flo_step e4 hk)
    rw [e2] at hk
    have ok':=ok.adopt (ops:=ops) e5 e6 e7 e8 e9 e10 (flo_hd e4)
    have hiu:lr.getD i true=true:=by rw [hlr]; simp [hxi]
    refine wpAnyT_mono (fun w' hs=>Stand.weaken (Keeps.snoc _ _) (RLe.snoc _ _) hs) (ih n (A:=A) (l:=l.setIfInBounds i true) (lr:=lr) (D:=D1++D2) (by omega) (fun j=>?_) (by simp [hsz]) hc hp (fun y hy=>?_) (hD1.sublist ((sub_mid D1 D2 x).map _)) (hD2.sublist ((sub_mid D1 D2 x).map _)) ?_ (by simp only [List.length_cons,List.length_append] at hn ⊢; omega) hk ok')
    ·by_cases hij:i=j
     ·subst hij; rw [set_self,hiu]; rfl
     ·rw [getD_set_ne true hij,hlr]
      congr 1
      have:j≠x.1:=fun e=>hij (by rw [e,hxi])
      simp [this]
    ·have hyD:y∈D1++x::D2:=(sub_mid D1 D2 x).subset hy
     have hyi:y.1≠i:=by rw [← hxi]; exact nodup_mid (f:=fun z=>z.1) hD1 hy
     obtain ⟨y1,y2,o2,d2,ch2,m2,g1,g2,g3,g4,g5,g6,g7,g8,g9,g10⟩:=hD y hyD
     refine ⟨y1,by rw [getD_set_ne true (Ne.symm hyi)]; exact y2,o2,d2,ch2,m2,g1,g2,g3,g4,g5,g6,g7,fun hc=>?_,g9,fun i W ms hi hB=>?_⟩
     obtain ⟨k,f,ho,e⟩:=mem_drop.1 hc
     rw [List.getElem?_append] at e
     split at e
     ·exact g8 (mem_drop.2 ⟨k,f,ho,e⟩)
     ·have e:=List.mem_of_getElem? e
      simp only [List.mem_singleton,Prod.mk.injEq] at e
      exact nodup_mid (f:=fun z=>z.2.1) hD2 hy e.1
     ·rcases Nat.lt_trichotomy i h.length with hlt|heq|hgt
      ·rw [List.getElem?_append_left hlt] at hi
       exact g10 i W ms hi hB
      ·subst heq
       have hch:=flo_hd e4
       simp at hi
       rw [hi] at hch
       cases hch
      ·rw [List.getElem?_eq_none (by simp; omega)] at hi; cases hi
    ·have:=any_put (x:=.a (.c (floC mm h.length))) ho
     rw [e2] at this
     exact this
   ·obtain ⟨n,rfl⟩:∃ n',n=n'+1:=⟨n-1,by have:=hDlen rfl hiD; rw [ptIds_len] at this; omega⟩
    have hinr:=inlr hin hiD
    refine ⟨(fun h=>by rw [h] at hinr; cases hinr),fun j hj=>?_⟩
    by_cases hji:j=i
    ·subst hji
     exact wpAnyT_in hiT (wpOp_of ho (one_sound hT ok hk fun x v h' r' w' h1' h2' hr hF=>⟨hF.stand,wpAnyT_mono (fun w'' hs=>hF.stand.trans hr hF.keeps hs) (ih n (A:=A) (l:=l.setIfInBounds j true) (lr:=lr.setIfInBounds j true) (D:=D) (by omega) lrset (by simp [hsz]) (hc.set hj) hp (dkeep ho hiD hr hF) hD1 hD2 (any_put ho) (by omega) h1' h2')⟩))
    ·by_cases hji':j=i2
     ·subst hji'
      split at hk' <;> try exact hk'.elim
      rename_i o ho
      exact wpAnyT_in hiT' (wpOp_of ho (one_sound hT ok hk' fun x v h' r' w' h1' h2' hr hF=>⟨hF.stand,wpAnyT_mono (fun w'' hs=>hF.stand.trans hr hF.keeps hs) (ih n (A:=U) (l:=l.setIfInBounds j true) (lr:=lr.setIfInBounds j true) (D:=D) (by omega) lrset (by simp [hsz]) (hc.set hj) hp' (dkeep ho hiD' hr hF) hD1 hD2 (any_put ho) (by omega) h1' h2')⟩))
     ·refine early n rfl j hj (Classical.byContradiction fun hjn=>?_)
      have:=outAL (F:=fun j=>!(Nat.beq j i)) hj hjn (fun k hk=>by
       cases hb':Nat.beq k i with
       | false=>rfl
       | true=>exact absurd (Nat.eq_of_beq_eq_true hb' ▸ hk) hiD)
      rw [h1] at this
      simp only [List.mem_cons,List.not_mem_nil,or_false] at this
      exact this.elim hji hji'
theorem fgt_spec {ops:Array Oper} {K:St→Prop} {r:Rho} {a:Act} {w:World}:∀ {AL:List Nat} {s:St},fgt ops AL s K→Ok C s r a w→∃ s',K s'∧Ok C s' r a w∧(∀ d:Nat,s.t[d]?=some .any→s'.t[d]?=some .any)∧∀ j∈AL,∀ d,dstOf ops j=some d→s'.t[d]?=some .any
 | [],s,hk,ok=>⟨s,hk,ok,fun _ h=>h,fun j hj=>by cases hj⟩
 | j::AL,⟨t,h⟩,hk,ok=>by
  unfold fgt at hk
  split at hk <;> try exact hk.elim
  rename_i d hd
  split at hk <;> try exact hk.elim
  rename_i hlt
  have hlt:d<t.length:=Nat.le_of_ble_eq_true hlt
  rw [setT_eq] at hk
  have ok1:Ok C ⟨t.set d .any,h⟩ r a w:=⟨ok.heap,by simpa using ok.size,fun e y he=>by
   by_cases hde:d=e
   ·subst hde
    simp only [List.getElem?_set_self',List.getElem?_eq_getElem hlt] at he
    simp at he
    subst he
    trivial
   ·rw [List.getElem?_set_ne hde] at he
    exact ok.slots e y he,ok.defers⟩
  obtain ⟨s',h1,h2,h3,h4⟩:=fgt_spec hk ok1
  refine ⟨s',h1,h2,fun e he=>h3 e ?_,fun k hk' e he=>?_⟩
  ·show (t.set d .any)[e]?=_
   by_cases hde:d=e
   ·subst hde; simp [hlt]
   ·rw [List.getElem?_set_ne hde]; exact he
  ·cases hk' with
   | head =>
    rw [hd] at he
    injection he with he
    subst he
    exact h3 d (by simp [hlt])
   | tail _ hk'=>exact h4 k hk' e he
theorem draw_soundA {K:St→Prop} (hT:AllT C.P C.T) (hm:C.P.follows .mixedOrders=true) (hP:PanicOk Q) (hQ:∀ s' r' a' w',K s'→Ok C s' r' a' w'→Q .normal a' w') {k:Option (List Nat)} {AL:List Nat} {A:List (Nat × Bool)} {B:List Nat} (hp:(planAll ops AL A B && floOk C.T ops AL)=true)
  {s:St} {r:Rho} {a:Act} {w:World} {id:Nat} (hk:fgt ops AL s fun s=>vcA C (keepOf k) ops A s fun s'=>vcB C ops B s' K) (ok:Ok C s r a w):(Code.region id ops true).wp C.P Q a w:=by
 rw [Bool.and_eq_true] at hp
 obtain ⟨hp,hfl⟩:=hp
 simp only [planAll,Bool.and_eq_true] at hp
 obtain ⟨⟨⟨⟨h1,h2⟩,h3⟩,h4⟩,h5⟩:=hp
 have h4:=Nat.eq_of_beq_eq_true h4
 obtain ⟨s1,hk,ok,_,hany⟩:=fgt_spec hk ok
 refine wp_region_any hm (wpAny_of_T (S:=Stand C (keepOf k) s1.h r w.drew) (T:=A.map (·.1)) ?_)
 have ok':Ok C s1 r a w.drew:=⟨ok.heap.ext0 ((Ext.refl _ _).drew),ok.size,ok.slots,ok.defers⟩
 rw [← h4] at h1
 rw [← h4]
 refine planA_sound (q:=keepOf k) (by cases k <;> rfl) hT hP hfl (fun j hj=>memB_iff.1 (List.all_eq_true.1 h5 j hj)) h2 h3 hQ _ _ (D:=[]) (Nat.le_refl _) (fun j=>by simp) rfl (by rw [h4]; exact Region.Closed.start) (fun x hx=>List.mem_map.2 ⟨x,hx,rfl⟩) (fun x hx=>memOf_spec hx) h1 (fun i hi _=>by
  obtain ⟨x,hx,rfl⟩:=List.mem_map.1 hi
  exact ⟨x.2,hx⟩) (fun x hx=>by cases hx) (by simp) (by simp) (fun j hj _=>hany j hj) (by simp) hk ok'
theorem draw_sound {K:St→Prop} (hT:AllT C.P C.T) (hm:C.P.follows .mixedOrders=true) (hP:PanicOk Q) (hQ:∀ s' r' a' w',K s'→Ok C s' r' a' w'→Q .normal a' w') {k:Option (List Nat)} {AL:List Nat} {A:List (Nat × Bool)} {B:List Nat} (hp:planAny C.T ops AL A B=true)
  {s:St} {r:Rho} {a:Act} {w:World} {id:Nat} (hk:vcAny C (keepOf k) ops AL A B s K) (ok:Ok C s r a w):(Code.region id ops true).wp C.P Q a w:=by
 unfold planAny at hp
 unfold vcAny at hk
 cases hsA:swpA AL with
 | some x =>
  obtain ⟨L,pt⟩:=x
  rw [hsA] at hp hk
  dsimp only at hp hk
  simp only [planAllTA,Bool.and_eq_true] at hp
  obtain ⟨⟨⟨⟨⟨h1,h2⟩,h3⟩,h4⟩,hfl⟩,h5⟩:=hp
  have h4:=Nat.eq_of_beq_eq_true h4
  obtain ⟨s1,hk,ok,_,hany⟩:=fgt_spec hk ok
  refine wp_region_any hm (wpAny_of_T (S:=Stand C (keepOf k) s1.h r w.drew) (T:=A.map (·.1)) ?_)
  have ok':Ok C s1 r a w.drew:=⟨ok.heap.ext0 ((Ext.refl _ _).drew),ok.size,ok.slots,ok.defers⟩
  rw [← h4] at h1 ⊢
  exact planTA_sound (q:=keepOf k) (by cases k <;> rfl) hT hP hfl (fun j hj=>memB_iff.1 (List.all_eq_true.1 h5 j hj)) h2 h3 hQ _ _ (D:=[]) (Nat.le_refl _) (fun j=>by simp) rfl (by rw [h4]; exact Region.Closed.start) h1 (fun x hx=>by cases hx) (by simp) (by simp) (fun j hj _=>hany j hj) (by simp) hk ok'
 | none =>
 rw [hsA] at hp hk
 dsimp only at hp hk
 cases hs:swp A AL with
 | none =>
  rw [hs] at hp hk
  exact draw_soundA hT hm hP hQ hp hk ok
 | some pt =>
  rw [hs] at hp hk
  dsimp only at hp hk
  simp only [planAllT,Bool.and_eq_true] at hp
  obtain ⟨⟨⟨h1,h2⟩,h3⟩,h4⟩:=hp
  have h4:=Nat.eq_of_beq_eq_true h4
  refine wp_region_any hm (wpAny_of_T (S:=Stand C (keepOf k) s.h r w.drew) (T:=A.map (·.1)) ?_)
  have ok':Ok C s r a w.drew:=⟨ok.heap.ext0 ((Ext.refl _ _).drew),ok.size,ok.slots,ok.defers⟩
  rw [← h4] at h1 ⊢
  exact planT_sound (q:=keepOf k) (by cases k <;> rfl) hT hP h2 h3 hQ _ h1 (by rw [h4]; exact Region.Closed.start) hk ok'
end

/-! Loops: other names, less said. -/
section
variable {C : Cx}
theorem wp_loopX {P:Program} {X:Type} {c:Code} {Q:Exit→Act→World→Prop} {a:Act} {w:World} (I:X→Act→World→Prop) (μ:X→Nat) (h₀:∃ x,I x a w)
  (round:∀ x a w,I x a w→c.wp P (Exit.then (fun a' w'=>∃ x',I x' a' w'∧μ x'<μ x) Q) a w):(Code.loop c).wp P Q a w:=by
 intro b k cs
 have key:∀ n x a w,μ x=n→I x a w →
   ∃ e a' w',Q e a' w'∧Arrives P (lone (b.at a (.code c::.inLoop c::k)) cs w) b k cs e a' w':=by
  intro n
  induction n using Nat.strongRecOn with
  | _ n ih =>
   intro x a w hn hI
   obtain ⟨e,a₁,w₁,hq,harr⟩:=round x a w hI b (.inLoop c::k) cs
   cases e with
   | normal =>
    obtain ⟨x',hI₁,hlt⟩:=hq
    obtain ⟨e₂,a₂,w₂,hq₂,harr₂⟩:=ih (μ x') (hn ▸ hlt) x' a₁ w₁ rfl hI₁
    exact ⟨e₂,a₂,w₂,hq₂,.of_steps (Steps.trans harr (.one step_inLoop)) harr₂⟩
   | exit id=>exact ⟨_,a₁,w₁,hq,.pass (x:=.inLoop c) rfl (fun _ _=>.inl (by simp)) harr⟩
   | goto l=>exact ⟨_,a₁,w₁,hq,.pass (x:=.inLoop c) rfl (fun _ _=>.inl (by simp)) harr⟩
   | ret=>exact ⟨_,a₁,w₁,hq,.pass (x:=.inLoop c) rfl (fun _ _=>.inl (by simp)) harr⟩
   | panic ch=>exact ⟨_,a₁,w₁,hq,.pass (x:=.inLoop c) rfl (fun _ _=>.inl (by simp)) harr⟩
   | outgrown=>exact ⟨_,a₁,w₁,hq,.pass (x:=.inLoop c) rfl (fun _ _=>.inl (by simp)) harr⟩
 obtain ⟨x,h₀⟩:=h₀
 obtain ⟨e,a',w',hq,harr⟩:=key _ x a w rfl h₀
 exact ⟨e,a',w',hq,.of_steps (.one step_loop) harr⟩
def InLoop (P:Program) (c:Code) (Q:Exit→Act→World→Prop) (a:Act) (w:World):Prop :=
 ∀ (b:Frame) (k:List Item) (cs:List Frame),∃ e a' w',Q e a' w'∧Arrives P (lone (b.at a (.code c::.inLoop c::k)) cs w) b k cs e a' w'
theorem wp_of_inLoop {P:Program} {c:Code} {Q:Exit→Act→World→Prop} {a:Act} {w:World} (h:InLoop P c Q a w):(Code.loop c).wp P Q a w:=by
 intro b k cs
 obtain ⟨e,a',w',hq,harr⟩:=h b k cs
 exact ⟨e,a',w',hq,.of_steps (.one step_loop) harr⟩
theorem inLoop_round {P:Program} {c:Code} {Q:Exit→Act→World→Prop} {a:Act} {w:World} (h:c.wp P (Exit.then (InLoop P c Q) Q) a w):InLoop P c Q a w:=by
 intro b k cs
 obtain ⟨e,a₁,w₁,hq,harr⟩:=h b (.inLoop c::k) cs
 cases e with
 | normal =>
  obtain ⟨e₂,a₂,w₂,hq₂,harr₂⟩:=hq b k cs
  exact ⟨e₂,a₂,w₂,hq₂,.of_steps (Steps.trans harr (.one step_inLoop)) harr₂⟩
 | exit id=>exact ⟨_,a₁,w₁,hq,.pass (x:=.inLoop c) rfl (fun _ _=>.inl (by simp)) harr⟩
 | goto l=>exact ⟨_,a₁,w₁,hq,.pass (x:=.inLoop c) rfl (fun _ _=>.inl (by simp)) harr⟩
 | ret=>exact ⟨_,a₁,w₁,hq,.pass (x:=.inLoop c) rfl (fun _ _=>.inl (by simp)) harr⟩
 | panic ch=>exact ⟨_,a₁,w₁,hq,.pass (x:=.inLoop c) rfl (fun _ _=>.inl (by simp)) harr⟩
 | outgrown=>exact ⟨_,a₁,w₁,hq,.pass (x:=.inLoop c) rfl (fun _ _=>.inl (by simp)) harr⟩
theorem inLoop_of {P:Program} {X:Type} {c:Code} {Q:Exit→Act→World→Prop} (I:X→Act→World→Prop) (μ:X→Nat)
  (round:∀ x a w,I x a w→c.wp P (Exit.then (fun a' w'=>∃ x',I x' a' w'∧μ x'<μ x) Q) a w):∀ (n:Nat) (x:X) (a:Act) (w:World),μ x=n→I x a w→InLoop P c Q a w:=by
 intro n
 induction n using Nat.strongRecOn with
 | _ n ih =>
  intro x a w hn hI
  refine inLoop_round (wp_mono (round x a w hI) fun e a' w' hq=>?_)
  cases e with
  | normal =>
   obtain ⟨x',hI',hlt⟩:=hq
   exact ih (μ x') (hn ▸ hlt) x' a' w' rfl hI'
  | _=>exact hq
end
end Sx
end
end Go.Proofs.Ytgmbfaefadefjaa
