/-
  Texts of this claim, part 8: VsB, VsC, EoJ, EoK, EoL, VwC, EoM, EoN, EoP, EoQ, EoR, EoS, VrA, EoT, EoU, EoV, EoW, EoX, EoY, Sxw, Sxw2, Sxv, Sxs, EoZ, EpA, QkP, QjL, QjM, QjN, QjU, QkQ, QkR, QjQ, QjR, QjS, QjI, QjJ, QjK, QjO, QjP, EpD, QjV, QjW. No condition of its own.
-/
import Derived.OpenShut
import Derived.ChangeArms
import Derived.Test.YtnehmcpkeamghaaDoorG7
namespace Go.Proofs.YtnehmcpkeamghaaDoor
set_option linter.unusedVariables false
section
namespace Vi
open Sha
def failM (l:Bs) (e x:Int):Bs × Int:=if x=0∨e≠0 then (l,e) else ([],x)
def nextM (l:Bs) (e:Int):(BitVec 64 × Nat × Bool) × Bs × Int :=
 if e≠0 then ((0#64,0,false),l,e) else
 if (takeM l).2.2≠0 then ((0#64,0,false),[],(takeM l).2.2) else (((takeM l).1,(takeM l).2.1,true),l.drop (takeM l).2.1,0)
def bytesM (l:Bs) (e many:Int):Bs × Bs × Int :=
 if e≠0 then ([],l,e) else if many<0∨(l.length:Int)<many then ([],[],3) else (l.take many.toNat,l.drop many.toNat,0)
end Vi
namespace Sx
open Sha Vi

end Sx
end
section
namespace Vi
open Sha
def endM (l:Bs) (e:Int):Bs × Int:=if 0<l.length then failM l e 24 else (l,e)
end Vi
namespace Sx
open Sha Vi

end Sx
end
section
namespace Vi
open Sha
def leastM (l:Bs) (e:Int):BitVec 64 × Bs × Int:=match nextM l e with
 | ((n,k,b),l',e')=>if b=false then (0#64,l',e') else if k≠lenN n then (0#64,failM l' e' 4) else (n,l',e')
end Vi
namespace Sx
open Go.RowKit Sha Vi Ev

end Sx
end
section
namespace Ev
open Vi Sha
def numsR:Nat→Bs→Int→List (BitVec 64) × Bs × Int
 | 0,l,e=>([],l,e)
 | k+1,l,e=>((leastM l e).1::(numsR k (leastM l e).2.1 (leastM l e).2.2).1,(numsR k (leastM l e).2.1 (leastM l e).2.2).2)
def failIf (c:Bool) (x:Int) (p:Bs × Int):Bs × Int:=if c=true then failM p.1 p.2 x else p
abbrev kindL (k:BitVec 64):BitVec 8:=BitVec.setWidth 8 (if 255#64<k then 255#64 else k)
abbrev manyL (m:BitVec 64):Int:=((if 20#64<m then 20#64 else m).toNat:Int)
def data1 (m:BitVec 64) (q:Bs × Int):Bs × Bs × Int:=bytesM q.1 q.2 (manyL m)
def take3 (kk:BitVec 8) (t:BitVec 64) (N:List (BitVec 64)) (p:Bs × Int):Ev × Bs × Int :=
 if evData kk=true then (⟨kk,t,N,(data1 (leastM p.1 p.2).1 (failIf (decide (20#64<(leastM p.1 p.2).1)) 4 (leastM p.1 p.2).2)).1⟩,(data1 (leastM p.1 p.2).1 (failIf (decide (20#64<(leastM p.1 p.2).1)) 4 (leastM p.1 p.2).2)).2)
 else (⟨kk,t,N,[]⟩,p)
def take2 (kk:BitVec 8) (t:BitVec 64) (q:Bs × Int):Ev × Bs × Int:=take3 kk t (numsR (evNames kk).length q.1 q.2).1 (numsR (evNames kk).length q.1 q.2).2
def take1 (kk:BitVec 8) (last:BitVec 64) (p:Bs × Int):Ev × Bs × Int :=
 take2 kk (last+(leastM p.1 p.2).1) (failIf (decide (1125899906842624#64<last+(leastM p.1 p.2).1)) 21 (leastM p.1 p.2).2)
def takeE (l:Bs) (e:Int) (last:BitVec 64):Ev × Bs × Int :=
 if (leastM l e).2.2≠0 then (⟨0#8,0#64,[],[]⟩,(leastM l e).2) else take1 (kindL (leastM l e).1) last (failIf (!evOk (kindL (leastM l e).1)) 5 (leastM l e).2)
theorem take1_eq {kk:BitVec 8} {last n:BitVec 64} {l l':Bs} {e e':Int} (h:leastM l e=(n,l',e')):take1 kk last (l,e)=take2 kk (last+n) (failIf (decide (1125899906842624#64<last+n)) 21 (l',e')):=by
 unfold take1; rw [h]
theorem take3_no {kk:BitVec 8} {t:BitVec 64} {N:List (BitVec 64)} {p:Bs × Int} (h:evData kk=false):take3 kk t N p=(⟨kk,t,N,[]⟩,p):=by
 unfold take3; rw [h,if_neg (by decide)]
theorem take3_ok {kk:BitVec 8} {t m:BitVec 64} {N:List (BitVec 64)} {l l':Bs} {e e':Int} (h:evData kk=true) (hm:leastM l e=(m,l',e')) {D l2:Bs} {e2:Int} (hd:data1 m (failIf (decide (20#64<m)) 4 (l',e'))=(D,l2,e2)):take3 kk t N (l,e)=(⟨kk,t,N,D⟩,l2,e2):=by
 unfold take3; rw [h,if_pos rfl]; simp only [hm]; rw [hd]
end Ev
namespace Sx
open Go.RowKit Sha Vi Ev

end Sx
end
section
namespace Ev
open Vi Sha
def evsR : Nat → BitVec 64 → Bs → Int → List Ev × Bs × Int
  | 0, _, l, e => ([], l, e)
  | k + 1, last, l, e => if e ≠ 0 then ([], l, e) else
    ((takeE l e last).1 :: (evsR k (takeE l e last).1.t (failIf (decide ((takeE l e last).1.k = 19#8) && decide (k ≠ 0)) 10 (takeE l e last).2).1 (failIf (decide ((takeE l e last).1.k = 19#8) && decide (k ≠ 0)) 10 (takeE l e last).2).2).1,
     (evsR k (takeE l e last).1.t (failIf (decide ((takeE l e last).1.k = 19#8) && decide (k ≠ 0)) 10 (takeE l e last).2).1 (failIf (decide ((takeE l e last).1.k = 19#8) && decide (k ≠ 0)) 10 (takeE l e last).2).2).2)
def finD (r:List Ev × Bs × Int):List Ev × Int:=if (endM r.2.1 r.2.2).2≠0 then ([],(endM r.2.1 r.2.2).2) else (r.1,0)
def dec3 (m:BitVec 64) (q:Bs × Int):List Ev × Int:=finD (evsR m.toNat 0#64 q.1 q.2)
def dec2 (p:Bs × Int):List Ev × Int:=dec3 (leastM p.1 p.2).1 (failIf (decide (2048#64<(leastM p.1 p.2).1)) 7 (leastM p.1 p.2).2)
def decM (b:Bs):List Ev × Int:=dec2 (failIf (decide ((bytesM b 0 4).2.2=0) && decide (U8 (bytesM b 0 4).1≠[66,73,78,49])) 4 (bytesM b 0 4).2)
theorem evsR_step {k:Nat} {last:BitVec 64} {l l1 l2:Bs} {e1 e2:Int} {ev:Ev} (h:takeE l 0 last=(ev,l1,e1)) (hf:failIf (decide (ev.k=19#8) && decide (k≠0)) 10 (l1,e1)=(l2,e2)) :
  evsR (k+1) last l 0=(ev::(evsR k ev.t l2 e2).1,(evsR k ev.t l2 e2).2):=by
 rw [evsR,if_neg (by decide),h]; dsimp only; rw [hf]
end Ev
namespace Sx
open Go.RowKit Sha Vi Ev

theorem EvsAt.nul {W:World} {ms:List Nat}:EvsAt W ms none 0 0 []:=⟨rfl,Nat.le_refl _,by decide,fun _=>rfl,fun A h=>by cases h⟩
theorem rz_raw {F:Nat→Bool} {α:Nat→Addr} {x:SC} (h:x.raw=x):(x.rz F α).raw=x:=by
 cases x <;> simp only [SC.raw] at h <;> first|rfl|cases h
theorem nthC_get {l:List SC} {j:Nat} (h:j<l.length):l[j]?=some (nthC l j):=by
 obtain ⟨x,hx⟩:∃ x,l[j]?=some x:=⟨_,List.getElem?_eq_getElem h⟩
 rw [hx,nthC_get? hx]
end Sx
end
section
namespace Vi
open Sha
def longL (l:Bs):Bs:=putL (BitVec.ofNat 64 l.length)++l
theorem lenN_of {n:Nat} (h:n≤1000000):lenN (BitVec.ofNat 64 n)≠0:=by
 have:=lenN_spec (BitVec.ofNat 64 n)
 rw [BitVec.toNat_ofNat,Nat.mod_eq_of_lt (by omega)] at this
 omega
end Vi
namespace Sx
open Sha Vi

end Sx
end
section
namespace Ev
open Vi Sha
def evB (last:BitVec 64) (e:Ev):Bs:=putAll [BitVec.setWidth 64 e.k,e.t-last]++putAll e.N++(if evData e.k=true then longL e.D else [])
def encL:List Ev→BitVec 64→Bs→Bs × Int
 | [],_,b=>(b,0)
 | e::r,last,b=>if checkM e≠0 then ([],checkM e) else if e.t<last then ([],21) else if e.k=19#8∧r≠[] then ([],10) else encL r e.t (b++evB last e)
def encM (es:List Ev):Bs × Int:=if 2048<es.length then ([],7) else encL es 0#64 ([66#8,73#8,78#8,49#8]++putAll [BitVec.ofNat 64 es.length])
theorem lenN_lt {n:BitVec 64} (h:n.toNat<4611686018427387904):lenN n≠0:=by
 have:=lenN_spec n
 omega
structure EvOk (e:Ev):Prop where
 k:evOk e.k=true
 t:e.t.toNat≤1125899906842624
 N:e.N.length≤8
 D:e.D.length≤20
 n:∀ n∈e.N,lenN n≠0
theorem check_ok {e:Ev} (h:checkM e=0):EvOk e:=by
 unfold checkM at h
 cases h1:evOk e.k
 ·rw [h1,if_pos rfl] at h; cases h
 rw [h1,if_neg (by decide)] at h
 by_cases h2:1125899906842624#64<e.t
 ·rw [if_pos h2] at h; cases h
 rw [if_neg h2] at h
 by_cases h3:e.N.length≠(evNames e.k).length
 ·rw [if_pos h3] at h; cases h
 rw [if_neg h3] at h
 by_cases h4:20<e.D.length
 ·rw [if_pos h4] at h; cases h
 rw [if_neg h4] at h
 by_cases h5:0<e.D.length∧evData e.k=false
 ·rw [if_pos h5] at h; cases h
 rw [if_neg h5] at h
 by_cases h6:∃ n∈e.N,4611686018427387903#64<n
 ·rw [if_pos h6] at h; cases h
 have hm:=many_le e.k
 refine ⟨h1,?_,by omega,by omega,fun n hn=>lenN_lt ?_⟩
 ·rw [BitVec.lt_def] at h2
  have:(1125899906842624#64).toNat=1125899906842624:=rfl
  omega
 ·have h7:¬ 4611686018427387903#64<n:=fun hc=>h6 ⟨n,hn,hc⟩
  rw [BitVec.lt_def] at h7
  have:(4611686018427387903#64).toNat=4611686018427387903:=rfl
  omega
end Ev
namespace Sx
open Go.RowKit Sha Vi Ev

end Sx
end
section
namespace Ev
end Ev
namespace Sx
open Go.RowKit Sha Vi Ev

end Sx
end
section
namespace Vi
open Sha
theorem nx_putE {n:BitVec 64} (h0:lenN n≠0) (r:Bs):nextM (putL n++r) 0=((n,lenN n,true),r,0):=by
 have hk:=lenN_ok h0
 obtain ⟨h1,h2⟩:=take_wide hk h0 (Nat.le_refl _) r
 have hl:(putL n).length=lenN n:=wideL_len _ _
 have hpos:0<lenN n:=by omega
 have ht:takeM (putL n++r)=(n,lenN n,0):=by
  unfold takeM
  rw [if_neg (by rw [show sizeT (L (putL n++r) 0)=lenN n from h1,List.length_append]; omega)]
  rw [show sizeT (L (putL n++r) 0)=lenN n from h1,show numT (putL n++r) (lenN n-1)=n from h2]
 unfold nextM
 rw [if_neg (by decide),ht]
 show (if (0:Int)≠0 then _ else ((n,lenN n,true),(putL n++r).drop (lenN n),0))=_
 rw [if_neg (by decide),← hl,List.drop_left]
theorem least_put {n:BitVec 64} (h0:lenN n≠0) (r:Bs):leastM (putL n++r) 0=(n,r,0):=by
 unfold leastM; rw [nx_putE h0]
 show (if true=false then _ else if lenN n≠lenN n then _ else _)=_
 rw [if_neg (by decide),if_neg (fun h=>h rfl)]
end Vi
end
section
namespace Ev
open Vi Sha
theorem numsR_put:∀ (N:List (BitVec 64)) (r:Bs),(∀ n∈N,lenN n≠0)→numsR N.length (putAll N++r) 0=(N,r,0)
 | [],r,_=>rfl
 | n::N,r,h=>by
  show numsR (N.length+1) ((putL n++putAll N)++r) 0=_
  rw [List.append_assoc,numsR,least_put (h n (List.mem_cons_self ..))]
  dsimp only
  rw [numsR_put N r fun m hm=>h m (List.mem_cons_of_mem _ hm)]
theorem min20 {m:BitVec 64} (h:¬ 20#64<m):manyL m=(m.toNat:Int)∧m.toNat≤20:=by
 unfold manyL
 rw [if_neg h]
 rw [BitVec.lt_def] at h
 have:(20#64).toNat=20:=rfl
 exact ⟨rfl,by omega⟩
theorem take3_put {e:Ev} (r:Bs) (h1:e.D.length≤20) (h2:evData e.k=false→e.D=[]):take3 e.k e.t e.N ((if evData e.k=true then longL e.D else [])++r,0)=(e,r,0):=by
 cases hd:evData e.k
 ·rw [take3_no hd]
  have:=h2 hd
  cases e
  dsimp only at this ⊢
  subst this
  rfl
 ·rw [if_pos rfl]
  have hl:lenN (BitVec.ofNat 64 e.D.length)≠0:=lenN_of (by omega)
  have hx:leastM (longL e.D++r) 0=(BitVec.ofNat 64 e.D.length,e.D++r,0):=by
   show leastM ((putL _++e.D)++r) 0=_
   rw [List.append_assoc,least_put hl]
  have hm:(BitVec.ofNat 64 e.D.length).toNat=e.D.length:=by rw [BitVec.toNat_ofNat]; omega
  have hlt:¬ 20#64<BitVec.ofNat 64 e.D.length:=by
   rw [BitVec.lt_def,hm]
   have:(20#64).toNat=20:=rfl
   omega
  refine take3_ok hd hx (D:=e.D) (l2:=r) (e2:=0) ?_
  rw [decide_eq_false hlt]
  show bytesM (e.D++r) 0 (manyL _)=_
  rw [(min20 hlt).1,hm]
  unfold bytesM
  rw [if_neg (by decide),if_neg (by rw [List.length_append]; omega)]
  rw [Int.toNat_natCast,List.take_left,List.drop_left]
theorem kind_put {k:BitVec 8}:kindL (BitVec.setWidth 64 k)=k:=by
 unfold kindL
 have:=k.isLt
 rw [if_neg (by rw [BitVec.lt_def,BitVec.toNat_setWidth]; have:(255#64).toNat=255:=rfl; omega)]
 apply BitVec.eq_of_toNat_eq
 rw [BitVec.toNat_setWidth,BitVec.toNat_setWidth]
 omega
structure GoodE (last:BitVec 64) (e:Ev):Prop where
 k:evOk e.k=true
 lo:last.toNat≤e.t.toNat
 hi:e.t.toNat≤1125899906842624
 N:e.N.length=(evNames e.k).length
 n:∀ n∈e.N,lenN n≠0
 D:e.D.length≤20
 nD:evData e.k=false→e.D=[]
theorem take_put_ev {last:BitVec 64} {ev:Ev} (h:GoodE last ev) (r:Bs):takeE (evB last ev++r) 0 last=(ev,r,0):=by
 have h1:=h.lo
 have h2:=h.hi
 have hsub:(ev.t-last).toNat=ev.t.toNat-last.toNat:=by rw [BitVec.toNat_sub]; omega
 have hadd:last+(ev.t-last)=ev.t:=by
  apply BitVec.eq_of_toNat_eq
  rw [BitVec.toNat_add,hsub]; omega
 have hl1:lenN (BitVec.setWidth 64 ev.k)≠0:=lenN_lt (by rw [BitVec.toNat_setWidth]; have:=ev.k.isLt; omega)
 have hl2:lenN (ev.t-last)≠0:=lenN_lt (by omega)
 have hb:evB last ev++r=putL (BitVec.setWidth 64 ev.k)++(putL (ev.t-last)++(putAll ev.N++((if evData ev.k=true then longL ev.D else [])++r))):=by
  unfold evB
  show ((putL _++(putL _++[]))++putAll ev.N++_)++r=_
  simp only [List.append_assoc,List.append_nil]
 have hM:(1125899906842624#64).toNat=1125899906842624:=rfl
 rw [hb]
 unfold takeE
 rw [least_put hl1]
 dsimp only
 rw [if_neg (by decide),kind_put,h.k]
 show take1 ev.k last (_,0)=_
 rw [take1_eq (least_put hl2 _),hadd,decide_eq_false (by rw [BitVec.lt_def]; omega)]
 show take2 ev.k ev.t (_,0)=_
 unfold take2
 dsimp only
 rw [← h.N,numsR_put _ _ h.n]
 exact take3_put r h.D h.nD
end Ev
end
section
namespace Ev
open Vi Sha
def catE:BitVec 64→List Ev→Bs
 | _,[]=>[]
 | last,e::r=>evB last e++catE e.t r
def GoodL:BitVec 64→List Ev→Prop
 | _,[]=>True
 | last,e::r=>GoodE last e∧(e.k=19#8→r=[])∧GoodL e.t r
theorem GoodE.check {last:BitVec 64} {e:Ev} (h:GoodE last e):checkM e=0∧¬ e.t<last:=by
 have hM:(1125899906842624#64).toNat=1125899906842624:=rfl
 have hT:(4611686018427387903#64).toNat=4611686018427387903:=rfl
 have h1:=h.hi
 have h2:=h.lo
 have h3:=h.D
 refine ⟨?_,by rw [BitVec.lt_def]; omega⟩
 unfold checkM
 rw [if_neg (by rw [h.k]; decide),if_neg (by rw [BitVec.lt_def]; omega),if_neg (fun hc=>hc h.N),if_neg (by omega),if_neg,if_neg]
 ·rintro ⟨n,hn,hb⟩
  have h4:=h.n n hn
  have:=lenN_spec n
  rw [BitVec.lt_def] at hb
  omega
 ·rintro ⟨hc,hd⟩
  rw [h.nD hd] at hc
  exact absurd hc (by decide)
theorem good_of {last:BitVec 64} {e:Ev} (h:checkM e=0) (ht:¬ e.t<last):GoodE last e:=by
 have hok:=check_ok h
 rw [BitVec.lt_def] at ht
 refine ⟨hok.k,by omega,hok.t,?_,hok.n,hok.D,fun hd=>?_⟩
 ·unfold checkM at h
  rw [if_neg (by rw [hok.k]; decide)] at h
  by_cases h2:1125899906842624#64<e.t
  ·rw [if_pos h2] at h; cases h
  rw [if_neg h2] at h
  by_cases h3:e.N.length≠(evNames e.k).length
  ·rw [if_pos h3] at h; cases h
  omega
 ·unfold checkM at h
  rw [if_neg (by rw [hok.k]; decide)] at h
  by_cases h2:1125899906842624#64<e.t
  ·rw [if_pos h2] at h; cases h
  rw [if_neg h2] at h
  by_cases h3:e.N.length≠(evNames e.k).length
  ·rw [if_pos h3] at h; cases h
  rw [if_neg h3] at h
  by_cases h4:20<e.D.length
  ·rw [if_pos h4] at h; cases h
  rw [if_neg h4] at h
  by_cases h5:0<e.D.length∧evData e.k=false
  ·rw [if_pos h5] at h; cases h
  exact List.eq_nil_of_length_eq_zero (by
   rcases Nat.eq_zero_or_pos e.D.length with h6|h6
   ·exact h6
   ·exact absurd ⟨h6,hd⟩ h5)
theorem encL_back:∀ (es:List Ev) (last:BitVec 64) (b:Bs) {c:Bs},encL es last b=(c,0)→GoodL last es∧c=b++catE last es
 | [],_,b,c,h=>by
  rw [encL] at h
  simp only [Prod.mk.injEq] at h
  exact ⟨trivial,by rw [catE,List.append_nil]; exact h.1.symm⟩
 | e::r,last,b,c,h=>by
  rw [encL] at h
  by_cases h1:checkM e≠0
  ·rw [if_pos h1] at h
   simp only [Prod.mk.injEq] at h
   exact absurd h.2 h1
  rw [if_neg h1] at h
  by_cases h2:e.t<last
  ·rw [if_pos h2] at h
   simp only [Prod.mk.injEq] at h
   exact absurd h.2 (by decide)
  rw [if_neg h2] at h
  by_cases h3:e.k=19#8∧r≠[]
  ·rw [if_pos h3] at h
   simp only [Prod.mk.injEq] at h
   exact absurd h.2 (by decide)
  rw [if_neg h3] at h
  obtain ⟨g1,g2⟩:=encL_back r e.t _ h
  refine ⟨⟨good_of (by omega) h2,fun hk=>?_,g1⟩,by rw [g2,catE,List.append_assoc]⟩
  exact Decidable.byContradiction fun hr=>h3 ⟨hk,hr⟩
theorem evsR_put:∀ (es:List Ev) (last:BitVec 64) (r:Bs),GoodL last es→evsR es.length last (catE last es++r) 0=(es,r,0)
 | [],_,r,_=>rfl
 | e::es,last,r,⟨h1,h2,h3⟩=>by
  rw [List.length_cons,catE,List.append_assoc]
  have hf:failIf (decide (e.k=19#8) && decide (es.length≠0)) 10 (catE e.t es++r,0)=(catE e.t es++r,0):=by
   have:(decide (e.k=19#8) && decide (es.length≠0))=false:=by
    by_cases hk:e.k=19#8
    ·rw [h2 hk]; simp
    ·rw [decide_eq_false hk]; rfl
   rw [this]; rfl
  rw [evsR_step (take_put_ev h1 _) hf,evsR_put es e.t r h3]
abbrev magicE:Bs:=[66#8,73#8,78#8,49#8]
theorem enc_back {es:List Ev} {b:Bs} (h:encM es=(b,0)):es.length≤2048∧GoodL 0#64 es∧b=magicE++(putL (BitVec.ofNat 64 es.length)++catE 0#64 es):=by
 unfold encM at h
 by_cases h1:2048<es.length
 ·rw [if_pos h1] at h
  simp only [Prod.mk.injEq] at h
  exact absurd h.2 (by decide)
 rw [if_neg h1] at h
 obtain ⟨g1,g2⟩:=encL_back es _ _ h
 refine ⟨by omega,g1,?_⟩
 rw [g2]
 show (magicE++(putL _++[]))++_=_
 rw [List.append_nil,List.append_assoc]
theorem dec_app {es:List Ev} {b:Bs} (h:encM es=(b,0)) (r:Bs):decM (b++r)=finD (es,r,0):=by
 obtain ⟨h1,h2,rfl⟩:=enc_back h
 have hn:(BitVec.ofNat 64 es.length).toNat=es.length:=by rw [BitVec.toNat_ofNat]; omega
 have hb:bytesM (magicE++(putL (BitVec.ofNat 64 es.length)++(catE 0#64 es++r))) 0 4=(magicE,putL (BitVec.ofNat 64 es.length)++(catE 0#64 es++r),0):=by
  unfold bytesM
  rw [if_neg (by decide),if_neg (by rw [List.length_append]; simp only [List.length_cons,List.length_nil]; omega)]
  rfl
 rw [List.append_assoc,List.append_assoc]
 unfold decM
 rw [hb]
 show dec2 (failIf (decide ((0:Int)=0) && decide (U8 magicE≠[66,73,78,49])) 4 (_,0))=_
 rw [show (decide ((0:Int)=0) && decide (U8 magicE≠[66,73,78,49]))=false by decide]
 show dec2 (_,0)=_
 unfold dec2
 dsimp only
 rw [least_put (lenN_of (by omega))]
 dsimp only
 rw [decide_eq_false (by rw [BitVec.lt_def,hn]; have:(2048#64).toNat=2048:=rfl; omega)]
 show dec3 _ (_,0)=_
 unfold dec3
 dsimp only
 rw [hn,evsR_put es _ r h2]
theorem dec_enc {es:List Ev} {b:Bs} (h:encM es=(b,0)):decM b=(es,0):=by
 have:=dec_app h []
 rw [List.append_nil] at this
 rw [this]; rfl
end Ev
end
section
namespace Ev
open Vi Sha
theorem mk62_len (x:BitVec 64):lenN (mk62 x)≠0:=by
 refine lenN_lt ?_
 show (x &&& 4611686018427387903#64).toNat<_
 rw [BitVec.toNat_and]
 have h1:(4611686018427387903#64).toNat=4611686018427387903:=rfl
 have h2:x.toNat &&& (4611686018427387903#64).toNat≤(4611686018427387903#64).toNat:=Nat.and_le_right
 omega
theorem fit_shape (e:Ev) (k:BitVec 8):evOk (fitE e k).k=true∧(fitE e k).N.length=(evNames (fitE e k).k).length∧(∀ n∈(fitE e k).N,lenN n≠0)∧(fitE e k).D.length≤20∧(evData (fitE e k).k=false→(fitE e k).D=[]):=by
 refine ⟨kindE_ok k,?_,?_,?_,?_⟩
 ·show (((padE e.N ((evNames (kindE k)).length-e.N.length)).take (evNames (kindE k)).length).map mk62).length=(evNames (kindE k)).length
  rw [List.length_map,List.length_take,padE_len]
  omega
 ·intro n hn
  obtain ⟨x,_,rfl⟩:=List.mem_map.1 (show n∈((padE e.N ((evNames (kindE k)).length-e.N.length)).take (evNames (kindE k)).length).map mk62 from hn)
  exact mk62_len x
 ·show (if evData (kindE k)=true then e.D.take 20 else []).length≤20
  split
  ·rw [List.length_take]; omega
  ·exact Nat.zero_le _
 ·intro h
  show (if evData (kindE k)=true then e.D.take 20 else [])=[]
  rw [if_neg (by rw [show evData (kindE k)=false from h]; decide)]
end Ev
end
section
namespace Vi
open Sha
end Vi
namespace Sx
open Sha Vi

end Sx
end
section
namespace Ev
open Vi Sha
end Ev
namespace Sx
open Go.RowKit Sha Vi Ev

end Sx
end
section
namespace Sx
open Go.RowKit Sha Vi Ev

end Sx
end
section
namespace Sx
open Go.RowKit Sha Vi Ev

end Sx
end
section
namespace Sx
open Go.RowKit Sha Vi Ev

end Sx
end
section
namespace Sx
open Go.RowKit Sha Vi Ev

theorem RowAt.frzF {W0 W:World} {ms0 ms:List Nat} {A:Addr} {F:Nat→Bool} {α:Nat→Addr} {n c:Nat} {cs:List SC} {es:List Ev} (k:RowAt W0 ms0 cs es) (hL:Later W0 ms0 W ms) {f:Nat→SC} (hf:∀ j,j<cs.length→f j=nthC cs j)
  (h:flat [.row (scale c (3+1)) f]≠[]→ImAt W ms A (((flat [.row (scale c (3+1)) f]).map (SC.rz F α)).map SC.raw)) (hn:es.length=n) (hc:n≤c) (hcap:n≤9223372036854775807):EvsAt W ms (some (A.add (0+0))) n c es:=by
 refine ⟨hn,hc,hcap,(fun e=>by cases e),fun B hB j e he=>?_⟩
 injection hB with hB
 subst hB
 obtain ⟨x,h1,h2⟩:=k.elt j e he
 have hj:j<n:=by rw [← hn]; exact (List.getElem?_eq_some_iff.1 he).1
 have hne:flat [.row (scale c (3+1)) f]≠[]:=by
  intro e
  have:=congrArg List.length e
  simp [flat,sc4] at this
  omega
 refine ⟨x,(((h hne).part (0+0) (m:=((flat [.row (scale c (3+1)) f]).map (SC.rz F α)).map SC.raw) (fun j x hx=>by simpa using hx)).part (j*4) fun i y hy=>?_),h2.later hL⟩
 have hi:i<4:=(List.getElem?_eq_some_iff.1 hy).1
 have hcs:=h1 i y hy
 have hlen:=k.len
 have hjn:j*4+i<scale c (3+1):=by rw [sc4]; omega
 rw [List.getElem?_map,List.getElem?_map]
 simp only [flat,List.append_nil,List.getElem?_map,List.getElem?_range hjn,Option.map_some]
 have hraw:=k.raw y (List.mem_of_getElem? hcs)
 rw [hf _ (List.getElem?_eq_some_iff.1 hcs).1,nthC_get? hcs,rz_raw hraw]
end Sx
end
section
namespace Sx
open Go.RowKit Sha Vi Ev

end Sx
end
section
namespace Sx
open Go.RowKit Go.ChangeShapes Go.WideShapes

section
variable {H : Type} {enc : TypeId × Value → H} {P : Program} {w : World} {base : Nat} {sp : Nat → Bool} {held : Bool}
theorem wf_w8 {a:Int} (h:(Lit.int .u8 a).wf=true):a=((BitVec.ofInt 8 a).toNat:Int):=by
 have:=bounds_u8 h
 rw [BitVec.toNat_ofInt]
 omega
end
theorem isAs_nil (r:Rho):IsAs r [] []:=⟨rfl,fun j x e=>by simp at e⟩
theorem isAs_cons {r:Rho} {x:SA} {v:Value} {l:List SA} {vs:List Value} (h:SA.Is r x v) (hs:IsAs r l vs):IsAs r (x::l) (v::vs) :=
 ⟨by simpa using hs.1,fun j y e=>by
  cases j with
  | zero=>simp at e; subst e; exact ⟨v,rfl,h⟩
  | succ j=>exact hs.2 j y e⟩
end Sx
end
section
namespace Sx
open Go.ChangeShapes

theorem wf_w64 {a:Int} (h:(Lit.int .u64 a).wf=true):a=((BitVec.ofInt 64 a).toNat:Int):=by
 have:=bounds_u64 h
 rw [BitVec.toNat_ofInt]
 omega
end Sx
end
section
namespace Sx
open Go.RowKit Go.ChangeShapes Go.WideShapes Sha

structure InB (w:World) (a:Option Addr) (n c:Nat) (z:Bool) (l:Bs) (B f:Nat):Prop where
 len:l.length=n
 le:n≤c
 cap:c≤maxLen
 nil:z=true→l=[]
 val:∀ (r:Rho) (i:Nat),r[i]?=some (B,f)→SC.Is r (.sn z i 0 0 n c) (.slice a n c)
 at_:∀ r:Rho,At false r w B f (flat (bts z n 0 n (L l)))
theorem open_b8 {w:World} {a:Option Addr} {len cap:Nat} {zs:List Int} (h:IsRow .u8 w a len cap zs) (hs:∀ x,a=some x→x.spot=none):∃ z l B f,InB w a len cap z l B f:=by
 rcases h with ⟨rfl,rfl,rfl,rfl⟩|⟨x,rfl,hl,hm,hz,hc,hw⟩
 ·exact ⟨true,[],0,0,rfl,Nat.le_refl _,by unfold maxLen; omega,fun _=>rfl,fun r i _=>.inl ⟨rfl,rfl,rfl,rfl⟩,fun r j y e=>by simp [bts,flat] at e⟩
 ·obtain ⟨B,f,spot⟩:=x
  obtain rfl:spot=none:=hs _ rfl
  refine ⟨false,(zs.take len).map (BitVec.ofInt 8),B,f,by simp; omega,hl,hm,fun h=>Bool.noConfusion h,fun r i hr=>.inr (.inl ⟨rfl,B,f,hr,rfl⟩),fun r j y e=>?_⟩
  have hj:j<len:=by
   rcases Nat.lt_or_ge j len with h|h
   ·exact h
   ·rw [List.getElem?_eq_none (by simpa [bts,flat] using h)] at e; cases e
  have e2:y=.w8 (L ((zs.take len).map (BitVec.ofInt 8)) j):=by
   simp only [bts,flat,List.append_nil,List.getElem?_map,Option.map_eq_some_iff] at e
   obtain ⟨i,hi,rfl⟩:=e
   rw [List.getElem?_range (by omega)] at hi
   injection hi with hi
   subst hi
   have:=winF_at 0 len (L ((zs.take len).map (BitVec.ofInt 8))) hj
   rwa [Nat.zero_add] at this
  subst e2
  have hc1:=hc j (by omega)
  have ha:(⟨B,f,none⟩:Addr).add j=⟨B,f+j,none⟩:=by unfold Addr.add; simp
  rw [ha] at hc1
  refine ⟨_,hc1,?_,fun h=>Bool.noConfusion h⟩
  show Value.int .u8 _=Value.int .u8 _
  congr 1
  have hjz:j<zs.length:=by omega
  have h3:zs.getD j 0=zs[j]:=by rw [List.getD_eq_getElem?_getD,List.getElem?_eq_getElem hjz]; rfl
  have h4:L ((zs.take len).map (BitVec.ofInt 8)) j=BitVec.ofInt 8 zs[j]:=by
   rw [L_lt (by simp; omega)]
   simp
  rw [h3,h4]
  exact wf_w8 (hw _ (List.getElem_mem _))
def AllAt (R:Rho) (w:World):List (List Seg)→Rho→Prop
 | [],[]=>True
 | ch::h,(B,f)::r=>At false R w B f (flat ch)∧AllAt R w h r
 | _,_=>False
theorem AllAt.len {R:Rho} {w:World}:∀ {h:List (List Seg)} {r:Rho},AllAt R w h r→r.length=h.length
 | [],[],_=>rfl
 | _::h,_::r,k=>by rw [List.length_cons,List.length_cons,AllAt.len k.2]
 | [],_::_,k=>k.elim
 | _::_,[],k=>k.elim
theorem AllAt.get {R:Rho} {w:World}:∀ {h:List (List Seg)} {r:Rho},AllAt R w h r→∀ (i:Nat) (ch:List Seg) (B f:Nat),h[i]?=some ch→r[i]?=some (B,f)→At false R w B f (flat ch)
 | [],[],_,i,_,_,_,e,_=>by simp at e
 | c::h,(B',f')::r,k,0,_,_,_,e1,e2=>by
  simp at e1 e2
  obtain ⟨rfl,rfl⟩:=e2
  subst e1
  exact k.1
 | c::h,(B',f')::r,k,i+1,_,_,_,e1,e2=>k.2.get i _ _ _ (by simpa using e1) (by simpa using e2)
theorem heapOk_ro {P:Program} {T:List (Nat × TD)} {w:World} {r0:Rho} {h0:List (List Seg)} (hat:AllAt r0 w h0 r0) (hp:∀ (i:Nat) (W:World) (ms:List Nat),h0[i]?=some [.past W ms]→W=w):HeapOk (cx0 P T w r0 h0.length h0) h0 r0 w:=by
 have hlen:=hat.len
 have hget:∀ i,h0[i]?=some (getH h0 i)∨h0[i]?=none:=fun i=>by
  rcases Nat.lt_or_ge i h0.length with h|h
  ·exact .inl (by rw [List.getElem?_eq_getElem h]; have:=getH_eq h0 i; rw [List.getElem?_eq_getElem h] at this; simpa using this.symm)
  ·exact .inr (List.getElem?_eq_none h)
 have out:∀ (i:Nat) (x:Nat × Nat),h0.length≤i→r0[i]?=some x→False:=fun i x hi e=>by
  rw [List.getElem?_eq_none (by omega)] at e; cases e
 refine ⟨Ext.refl _ _,RLe.refl _,Nat.le_of_eq hlen.symm,hlen,fun i ch B f hi hr=>?_,fun i B f ho hr=>(out i _ ho hr).elim,fun i B f ho hr=>(out i _ ho hr).elim,fun i B f ho hl hr=>?_,fun i ch ho hl hi=>?_,fun i j B f f' ch ch' hij o1 o2 h1 h2 r1 r2=>(out i _ o1 r1).elim,fun i m B f ho _ hr=>(out i _ ho hr).elim,fun i W ms hi=>?_⟩
 ·have hil:i<h0.length:=(List.getElem?_eq_some_iff.1 hi).1
  have:Nat.ble h0.length i=false:=by
   cases e:Nat.ble h0.length i
   ·rfl
   ·have:=ble_le e; omega
  show At (Nat.ble h0.length i) _ _ _ _ _
  rw [this]
  exact hat.get i ch B f hi hr
 ·refine ⟨?_,?_⟩
  ·show B ∉ (r0.drop h0.length).map (·.1)
   rw [List.drop_eq_nil_of_le (by omega)]
   simp
  ·rcases hget i with e|e
   ·exact (hat.get i _ B f e hr).lt hl
   ·rw [List.getElem?_eq_none_iff] at e
    exact (out i _ e hr).elim
 ·have hl:¬ flat (getH h0 i)≠[]:=hl
  rcases hget i with e|e
  ·rw [hi] at e
   injection e with e
   rw [e]
   exact Classical.not_not.1 hl
  ·rw [hi] at e; cases e
 ·obtain rfl:=hp i W ms hi
  exact ⟨Ext.refl _ _,fun B _ h2 h3=>⟨i,_,ms,hi,h2,h3⟩,fun j B f ho hr=>(out j _ ho hr).elim⟩
end Sx
end
section
namespace Sx
open Go.RowKit Go.ChangeShapes Go.WideShapes Sha Vi

theorem isL_nil (r:Rho):IsL r [] []:=⟨rfl,fun j x e=>by simp at e⟩
theorem isL_cons {r:Rho} {x:SC} {v:Value} {l:List SC} {vs:List Value} (h:x.Is r v) (hs:IsL r l vs):IsL r (x::l) (v::vs) :=
 ⟨by simpa using hs.1,fun j y e=>by
  cases j with
  | zero=>simp at e; subst e; exact ⟨v,rfl,h⟩
  | succ j=>exact hs.2 j y e⟩
end Sx
end
section
namespace Sx
open Go.RowKit Go.ChangeShapes Go.WideShapes Sha Vi Ev

theorem FnR.lawP {P:Program} {T:List (Nat × TD)} {f:FuncId} {args:List SA} {w:World} {vs:List Value} (h:FnR P T f 1 [[.past w []]] args (fun _=>True) (fun x _=>x=.a (.c (.bool true))))
  (ha:IsAs [(0,0)] args vs):Calls P f vs.toArray w fun e w'=>e=.returned (.bool true)∧Below w.heap.size w w':=by
 have hat:AllAt [(0,0)] w [[.past w []]] [(0,0)]:=⟨fun j x e=>by simp [flat] at e,trivial⟩
 refine (h w [(0,0)] vs (heapOk_ro hat (fun i W ms e=>?_)) ha trivial).mono ?_
 ·cases i with
  | zero=>simp at e; exact e.1.symm
  | succ i=>simp at e
 ·rintro e w' ⟨v,x,hs,r',rfl,hx,hok,rfl⟩
  obtain rfl:v=.bool true:=hx
  refine ⟨rfl,?_⟩
  have e:Ext (([((0:Nat),(0:Nat))].drop 1).map (·.1)) w w':=hok.ext
  exact e.below0
theorem cell_block {w:World} {a:Addr} {v:Value} (h:w.cell? a=some v):a.block<w.heap.size:=by
 unfold World.cell? at h
 rcases Nat.lt_or_ge a.block w.heap.size with hb|hb
 ·exact hb
 ·rw [Array.getElem?_eq_none hb] at h; cases h
theorem row_bs {w:World} {a:Option Addr} {n c:Nat} {zs:List Int} (h:IsRow .u8 w a n c zs) (hs:∀ x,a=some x→x.spot=none):∃ l:Bs,BsAt w [] a n c l:=by
 obtain ⟨z,l,B,f,hI⟩:=open_b8 h hs
 rcases h with ⟨rfl,rfl,rfl,rfl⟩|⟨x,rfl,hl,hm,hz,hc,hw⟩
 ·exact ⟨[],SlAt.nul⟩
 ·obtain ⟨B,f,spot⟩:=x
  obtain rfl:spot=none:=hs _ rfl
  have hcap:=hI.cap
  refine ⟨(zs.take n).map (BitVec.ofInt 8),by simp; omega,hl,by unfold maxLen at hcap; omega,(fun e=>by cases e),fun x e h0=>?_⟩
  injection e with e
  subst e
  refine ⟨rfl,?_,List.not_mem_nil,fun j y e=>?_⟩
  ·have:=cell_block (hc 0 (by omega))
   simpa [Addr.add] using this
  ·have hj:j<n:=by
    have:=(List.getElem?_eq_some_iff.1 e).1
    simp at this; omega
   have hjz:j<zs.length:=by omega
   have ha:(⟨B,f,none⟩:Addr).add j=⟨B,f+j,none⟩:=by unfold Addr.add; simp
   have hc1:=hc j (by omega)
   rw [ha] at hc1
   refine ⟨_,hc1,?_⟩
   rw [List.getElem?_map,List.getElem?_map,List.getElem?_take,if_pos hj,List.getElem?_eq_getElem hjz] at e
   simp only [Option.map_some,Option.some.injEq] at e
   subst e
   show Value.int .u8 _=Value.int .u8 _
   congr 1
   have h3:zs.getD j 0=zs[j]:=by rw [List.getD_eq_getElem?_getD,List.getElem?_eq_getElem hjz]; rfl
   rw [h3]
   exact wf_w8 (hw _ (List.getElem_mem _))
theorem row_ns {w:World} {a:Option Addr} {n c:Nat} {zs:List Int} (h:IsRow .u64 w a n c zs) (hs:∀ x,a=some x→x.spot=none):∃ l:List (BitVec 64),NsAt w [] a n c l:=by
 rcases h with ⟨rfl,rfl,rfl,rfl⟩|⟨x,rfl,hl,hm,hz,hc,hw⟩
 ·exact ⟨[],SlAt.nul⟩
 ·obtain ⟨B,f,spot⟩:=x
  obtain rfl:spot=none:=hs _ rfl
  have hcap:c≤maxLen:=hm
  refine ⟨(zs.take n).map (BitVec.ofInt 64),by simp; omega,hl,by unfold maxLen at hcap; omega,(fun e=>by cases e),fun x e h0=>?_⟩
  injection e with e
  subst e
  refine ⟨rfl,?_,List.not_mem_nil,fun j y e=>?_⟩
  ·have:=cell_block (hc 0 (by omega))
   simpa [Addr.add] using this
  ·have hj:j<n:=by
    have:=(List.getElem?_eq_some_iff.1 e).1
    simp at this; omega
   have hjz:j<zs.length:=by omega
   have ha:(⟨B,f,none⟩:Addr).add j=⟨B,f+j,none⟩:=by unfold Addr.add; simp
   have hc1:=hc j (by omega)
   rw [ha] at hc1
   refine ⟨_,hc1,?_⟩
   rw [List.getElem?_map,List.getElem?_map,List.getElem?_take,if_pos hj,List.getElem?_eq_getElem hjz] at e
   simp only [Option.map_some,Option.some.injEq] at e
   subst e
   show Value.int .u64 _=Value.int .u64 _
   congr 1
   have h3:zs.getD j 0=zs[j]:=by rw [List.getD_eq_getElem?_getD,List.getElem?_eq_getElem hjz]; rfl
   rw [h3]
   exact wf_w64 (hw _ (List.getElem_mem _))
section
variable {H : Type} {enc : TypeId × Value → H} {P : Program} {w : World} {base : Nat} {held : Bool}
theorem raw_b8 {t e:TypeId} {fuel:Nat} {cs:List Value} {y:DataW H × List MemPlace} (ht:P.underlying t=some (.slice e)) (he:P.underlying e=some (.int .u8)) (hc:P.cellsOf e=1)
  (h:DataW.trod enc P w base (fun _=>true) held fuel t cs=some y):∃ (a:Option Addr) (n c:Nat) (l:Bs),cs=[.slice a n c]∧BsAt w [] a n c l:=by
 rcases open_ints ht he hc h with ⟨rfl,_⟩|⟨x,n,c,zs,rfl,_,hl,hm,hz,_,hcell,hwz⟩
 ·exact ⟨none,0,0,[],rfl,SlAt.nul⟩
 ·have hz:zs.length=c:=by simpa using hz
  rcases Nat.eq_zero_or_pos c with hc0|hc0
  ·subst hc0
   obtain rfl:n=0:=by omega
   exact ⟨_,0,0,[],rfl,by simp,Nat.le_refl _,by decide,fun _=>rfl,fun x e h0=>absurd rfl h0⟩
  ·obtain ⟨l,hl⟩:=row_bs (w:=w) (n:=n) (c:=c) (zs:=zs) (.inr ⟨x,rfl,hl,hm,hz,fun i hi=>hcell i hi,hwz⟩) (fun y e=>by
    cases e
    have:=World.cell?_spot (hcell 0 (by omega))
    simpa [Addr.add] using this)
   exact ⟨_,n,c,l,rfl,hl⟩
theorem raw_n64 {t e:TypeId} {fuel:Nat} {cs:List Value} {y:DataW H × List MemPlace} (ht:P.underlying t=some (.slice e)) (he:P.underlying e=some (.int .u64)) (hc:P.cellsOf e=1)
  (h:DataW.trod enc P w base (fun _=>true) held fuel t cs=some y):∃ (a:Option Addr) (n c:Nat) (l:List (BitVec 64)),cs=[.slice a n c]∧NsAt w [] a n c l:=by
 rcases open_ints ht he hc h with ⟨rfl,_⟩|⟨x,n,c,zs,rfl,_,hl,hm,hz,_,hcell,hwz⟩
 ·exact ⟨none,0,0,[],rfl,SlAt.nul⟩
 ·have hz:zs.length=c:=by simpa using hz
  rcases Nat.eq_zero_or_pos c with hc0|hc0
  ·subst hc0
   obtain rfl:n=0:=by omega
   exact ⟨_,0,0,[],rfl,by simp,Nat.le_refl _,by decide,fun _=>rfl,fun x e h0=>absurd rfl h0⟩
  ·obtain ⟨l,hl⟩:=row_ns (w:=w) (n:=n) (c:=c) (zs:=zs) (.inr ⟨x,rfl,hl,hm,hz,fun i hi=>hcell i hi,hwz⟩) (fun y e=>by
    cases e
    have:=World.cell?_spot (hcell 0 (by omega))
    simpa [Addr.add] using this)
   exact ⟨_,n,c,l,rfl,hl⟩
end
section
theorem isL_head {r:Rho} {x:SC} {v:Value} (h:IsL r [x] [v]):x.Is r v:=by
 obtain ⟨u,e,hu⟩:=h.2 0 x rfl
 injection e with e
 rw [e]; exact hu
variable {H : Type} {enc : TypeId × Value → H} {w : World} {base : Nat} {held : Bool}
theorem one_k8 {P:Program} {t:TypeId} {fuel:Nat} {cs:List Value} {y:DataW H × List MemPlace} (ht:P.underlying t=some (.int .u8)) (h:DataW.trod enc P w base (fun _=>true) held fuel t cs=some y):∃ b:BitVec 8,∀ r:Rho,IsL r [.w8 b] cs:=by
 obtain ⟨x,rfl,_,wx⟩:=DataW.trod_int ht h
 exact ⟨BitVec.ofInt 8 x,fun r=>isL_cons (congrArg _ (wf_w8 wx)) (isL_nil r)⟩
theorem one_t64 {P:Program} {t:TypeId} {fuel:Nat} {cs:List Value} {y:DataW H × List MemPlace} (ht:P.underlying t=some (.int .u64)) (h:DataW.trod enc P w base (fun _=>true) held fuel t cs=some y):∃ b:BitVec 64,∀ r:Rho,IsL r [.w64 b] cs:=by
 obtain ⟨x,rfl,_,wx⟩:=DataW.trod_int ht h
 exact ⟨BitVec.ofInt 64 x,fun r=>isL_cons (congrArg _ (wf_w64 wx)) (isL_nil r)⟩
set_option maxRecDepth 100000 in
theorem open_ev {fuel:Nat} {cs:List Value} {y:DataW H × List MemPlace} (hl:cs.length=4) (hf:DataW.trod enc Tryd.prog w base (fun _=>true) held fuel 27 cs=some y) :
  ∃ (e:Ev) (x:EvC),EvAt w [] x e∧∀ r:Rho,IsL r (flat (evS e x)) cs:=by
 obtain ⟨xs,n,_,_,_,hxl,hg⟩:=DataW.trod_struct Tryd.underlying27 hf
 match cs,hl with
 | [c0,c1,c2,c3],_ =>
  match xs,hxl with
  | [y0,y1,y2,y3],_ =>
   obtain ⟨k,h0⟩:=one_k8 (P:=Tryd.prog) (cs:=[c0]) (y:=y0) Tryd.underlying22 (hg 0 _ rfl)
   obtain ⟨t,h1⟩:=one_t64 (P:=Tryd.prog) (cs:=[c1]) (y:=y1) Tryd.underlying23 (hg 1 _ rfl)
   obtain ⟨aN,nN,cN,N,e2,hN⟩:=raw_n64 (P:=Tryd.prog) (cs:=[c2]) (y:=y2) Tryd.underlying24 Tryd.underlying23 (by kernel_rfl) (hg 2 _ rfl)
   obtain ⟨aD,nD,cD,D,e3,hD⟩:=raw_b8 (P:=Tryd.prog) (cs:=[c3]) (y:=y3) Tryd.underlying25 Tryd.underlying5 (by kernel_rfl) (hg 3 _ rfl)
   injection e2 with e2; injection e3 with e3
   subst e2; subst e3
   exact ⟨⟨k,t,N,D⟩,⟨aN,nN,cN,aD,nD,cD⟩,⟨hN,hD⟩,fun r=>isL_cons (isL_head (h0 r)) (isL_cons (isL_head (h1 r)) (isL_cons rfl (isL_cons rfl (isL_nil r))))⟩
end
end Sx
end
section
namespace Sx
open Go.RowKit Go.ChangeShapes Go.WideShapes Sha Vi Ev

theorem FnR.frzW {P:Program} {T:List (Nat × TD)} {f:FuncId} {n:Nat} {h0:List (List Seg)} {args:List SA} {raw:World→Prop} {Res Res':SV→List (List Seg)→Prop} (h:FnR P T f n h0 args raw Res)
  (k:∀ (w:World) (r0:Rho) x hs,r0.length=h0.length→Res x hs→FinW (cx0 P T w r0 n h0) x hs Res'):FnR P T f n h0 args raw Res' :=
 fun w r0 vs ok ha hr=>(h w r0 vs ok ha hr).mono fun _ _ ⟨v,x,hs,r',e,h1,h2,h3⟩=>by
  obtain ⟨x',hs',r'',a,b,c⟩:=k w r0 x hs ok.len h3 r' _ v h2 h1
  exact ⟨v,x',hs',r'',e,a,b,c⟩
end Sx
end
section
namespace Qj
open Sha Js Ev
def rotJ (b n:Nat) (o:JT):JT:=.mk 6#8 0#64 [] (rotT b o.l n) (rotT b o.ns n)
theorem rotT_nil {α:Type} {b:Nat}:∀ n,rotT b ([]:List α) n=[]
 | 0=>rfl
 | n+1=>by rw [rotT,rotT_nil n]; rfl
end Qj
namespace Sx
open Go.RowKit Sha Vi Js Ev Qj
set_option maxRecDepth 20000 in
set_option maxHeartbeats 8000000 in
theorem fn_turn0 {W:World} {ms:List Nat} {o:JT} {x:JC} (hn:x.m=0) (by_:BitVec 8):FnR Tryd.prog tds 13 2 [[.past W ms],[.one (.w8 by_)]] [.agg (jvS o x),.c (.p 1 0 0)] (fun _=>True)
  (fun y hs=>y=.a (.agg vo0)∧hs=[[.past W ms],[.one (.w8 by_)]]):=by
 obtain ⟨A,m,mc,B,p,pc⟩:=x
 obtain rfl:m=0:=hn
 show FnR _ _ _ 2 _ [.agg [.one (.w8 o.k),.one (.w64 o.n),.one (.str (U8 o.s)),.one (.slc A 0 mc),.one (.slc B p pc)],.c (.p 1 0 0)] _ _
 refine fn_of_body tds_ok follows_ Tryd.func13 rfl (t:=.a (.agg [.one (.w8 o.k),.one (.w64 o.n),.one (.str (U8 o.s)),.one (.slc A 0 mc),.one (.slc B p pc)])::.a (.c (.p 1 0 0))::anys (Tryd.f13.ntmps-2)) rfl (fun w r0 hr0 _=>?_)
 obtain ⟨x0,x1,rfl⟩:=len2' hr0
 (repeat show _∧_;first|refine yr ?_|refine yt ?_|refine yf ?_|refine yo ?_)
 refine .inr ⟨1,?_⟩
 (repeat show _∧_;first|refine yr ?_|refine yt ?_|refine yf ?_|refine yo ?_)
 exact ⟨.a (.agg vo0),_,⟨[0,1],⟨rfl,rfl,rfl⟩,by (repeat first|exact trivial|refine ent1 ?_)⟩,rfl,rfl⟩
theorem fn_turnF {d:Nat} {W:World} {ms:List Nat} {o:JT} {x:JC} (hx:TAt W ms (d+1) o x) {n:Nat} (hn:o.l.length=n) (hns:o.ns.length=n) (h20:n≤20) (by_:BitVec 8):FnR Tryd.prog tds 13 2 [[.past W ms],[.one (.w8 by_)]] [.agg (jvS o x),.c (.p 1 0 0)] (fun _=>True)
  (fun y hs=>∃ z W' ms',Later W ms W' ms'∧TAt W' ms' (d+1) (rotJ by_.toNat n o) z∧y=.a (.agg (jvS (rotJ by_.toNat n o) z))∧hs=[[.past W' ms'],[.one (.w8 by_)]]):=by
 rcases Nat.eq_zero_or_pos n with h0|h0
 ·subst h0
  exact (fn_turn0 (by rw [← hx.len,hn]) by_).mono fun y hs ⟨h1,h2⟩=>⟨jc0,W,ms,Later.refl _ _,TAt.leaf rfl rfl _,h1,h2⟩
 ·refine (fn_turn hx hn hns h0 h20 by_).frzW (fun w r0 y hs hr0 ⟨c,e,cs,hc,he,hR,h1,h2⟩=>?_)
  obtain ⟨x0,x1,rfl⟩:=len2' hr0
  subst h1; subst h2
  refine finW_frzU [0,1] rfl (Nat.zero_lt_succ 1) cx0_m rfl (fun W9 ms9 α hL9 hI=>?_)
  have hl1:(rotT by_.toNat o.l n).length=n:=rotT_len (by omega) n
  have hl2:(rotT by_.toNat o.ns n).length=n:=rotT_len (by omega) n
  have hfn:=strs_frz (l:=(rotT by_.toNat o.ns n).map U8) (F:=fun j=>!memB j [0,1]) (A:=α 3) (W:=W9) (ms:=ms9) (c:=e) (g:=nthC (nmJ (rotT by_.toNat o.ns n))) (fun j hj=>rfl) (fun h=>(hI 3 rfl h).1) (n:=n) (by rw [List.length_map,hl2]) he (by omega)
  refine ⟨.a (.agg (jvS (rotJ by_.toNat n o) ⟨some ((α 2).add (0+0)),n,c,some ((α 3).add (0+0)),n,e⟩)),[[.one (.w8 by_)]],⟨⟨rfl,rfl,rfl⟩,by (repeat first|exact trivial|refine ent1 ?_)⟩,⟨some ((α 2).add (0+0)),n,c,some ((α 3).add (0+0)),n,e⟩,W9,ms9,hL9,⟨(hR.later hL9).frz2 (F:=fun j=>!memB j [0,1]) (fun j hj=>by simp only [rzJ_raw (hR.raw _ (nthJ_mem hj))]) (hI 2 rfl) marks_off (n:=n) hl1 hc (by omega),hfn⟩,rfl,rfl⟩
end Sx
end
section
namespace Qj
open Sha Js Ev
theorem idxN_at {s:Bs}:∀ {p r:List Bs},s ∉ p→idxN s (p++s::r)=some p.length
 | [],r,_=>by show idxN s (s::r)=_; rw [idxN,if_pos rfl]; rfl
 | a::p,r,h=>by
  rw [List.mem_cons,not_or] at h
  show idxN s (a::(p++s::r))=_
  rw [idxN,if_neg h.1,idxN_at h.2]
  rfl
theorem memJ_at {v x:JT} {s:Bs} {k:BitVec 8} {p r:List Bs} {pl rl:List JT} (hn:v.ns=p++s::r) (hl:v.l=pl++x::rl) (h:p.length=pl.length) (hs:s ∉ p) (hk:x.k=k):memJ v s k=some x:=by
 unfold memJ
 rw [hn,idxN_at hs,hl,h]
 dsimp only
 rw [List.getElem?_append_right (Nat.le_refl _),Nat.sub_self,List.getElem?_cons_zero]
 dsimp only
 rw [if_pos hk]
theorem nums_at {v:JT}:∀ (l:List Bs) (N:List (BitVec 64)) {p r:List Bs} {pl rl:List JT},v.ns=p++(l++r)→v.l=pl++(N.map tNum++rl)→p.length=pl.length→N.length=l.length→(p++l).Nodup→nums v l=some N
 | [],[],_,_,_,_,_,_,_,_,_=>rfl
 | [],_::_,_,_,_,_,_,_,_,h,_=>by simp at h
 | _::_,[],_,_,_,_,_,_,_,h,_=>by simp at h
 | s::l,n::N,p,r,pl,rl,hn,hl,h,hN,hd=>by
  have hs:s ∉ p:=fun hs=>(List.nodup_append.1 hd).2.2 s hs s (List.mem_cons_self ..) rfl
  rw [nums,memJ_at (x:=tNum n) (k:=3#8) hn hl h hs rfl]
  dsimp only
  rw [nums_at l N (p:=p++[s]) (r:=r) (pl:=pl++[tNum n]) (rl:=rl) (by rw [hn]; simp) (by rw [hl]; simp) (by simp [h]) (by simpa using hN) (by rw [List.append_assoc]; exact hd)]
  rfl
theorem hex_fin:∀ c:Fin 256,dig1 (hexd (c.val / 16))=some (BitVec.ofNat 8 (c.val / 16))∧dig1 (hexd (c.val % 16))=some (BitVec.ofNat 8 (c.val % 16))∧(BitVec.ofNat 8 (c.val / 16) <<< 4 ||| BitVec.ofNat 8 (c.val % 16))=BitVec.ofNat 8 c.val:=by decide +kernel
theorem unhex_hex:∀ D:Bs,unhex (hexB D)=some D
 | []=>rfl
 | c::D=>by
  obtain ⟨h1,h2,h3⟩:=hex_fin ⟨c.toNat,c.isLt⟩
  dsimp only at h1 h2 h3
  have e:hexB (c::D)=hexd (c.toNat / 16)::hexd (c.toNat % 16)::hexB D:=rfl
  rw [e,unhex,h1,h2]
  dsimp only
  rw [unhex_hex D,h3,BitVec.ofNat_toNat,BitVec.setWidth_eq]
  rfl
theorem nm_fin:∀ k:Fin 20,1≤k.val→namedM (evNm (BitVec.ofNat 8 k.val))=some (BitVec.ofNat 8 k.val)∧(dataNs (BitVec.ofNat 8 k.val)).Nodup∧((dataNs (BitVec.ofNat 8 k.val)).all fun s=>s.all fun c=>decide (c.toNat<128))=true∧((evNm (BitVec.ofNat 8 k.val)).all fun c=>decide (c.toNat<128))=true:=by decide +kernel
theorem nm_ok {k:BitVec 8} (h:evOk k=true):namedM (evNm k)=some k∧(dataNs k).Nodup∧(∀ s∈dataNs k,∀ c∈s,c.toNat<128)∧(∀ c∈evNm k,c.toNat<128):=by
 have h1:=of_decide_eq_true h
 obtain ⟨g1,g2,g3,g4⟩:=nm_fin ⟨k.toNat,by omega⟩ h1.1
 dsimp only at g1 g2 g3 g4
 rw [BitVec.ofNat_toNat,BitVec.setWidth_eq] at g1 g2 g3 g4
 simp only [List.all_eq_true,decide_eq_true_eq] at g3 g4
 exact ⟨g1,g2,g3,g4⟩
theorem check_ok {e:Ev} (h:checkM e=0):evOk e.k=true∧e.N.length=(evNames e.k).length∧e.D.length≤20∧(evData e.k=false→e.D=[]):=by
 unfold checkM at h
 split at h
 ·cases h
 rename_i h1
 split at h
 ·cases h
 split at h
 ·cases h
 rename_i h3
 split at h
 ·cases h
 rename_i h4
 split at h
 ·cases h
 rename_i h5
 refine ⟨by simpa using h1,Decidable.not_not.1 h3,by omega,fun hd=>?_⟩
 have:¬ 0<e.D.length:=fun hp=>h5 ⟨hp,hd⟩
 exact List.eq_nil_of_length_eq_zero (by omega)
theorem fill_back {e:Ev} (h:checkM e=0):fillM e.k (dataJ e)=some (e.N,e.D):=by
 obtain ⟨h1,h2,h3,h4⟩:=check_ok h
 obtain ⟨g1,g2,g3,g4⟩:=nm_ok h1
 have hN:e.N.length=(evNs e.k).length:=by rw [h2,evNs,List.length_map]
 have hnd:(evNs e.k).Nodup:=(List.nodup_append.1 g2).1
 have hdl:(dataL e).length=(dataNs e.k).length:=by
  unfold dataL dataNs
  rw [List.length_append,List.length_append,List.length_map,hN]
  by_cases hd:evData e.k=true
  ·rw [if_pos hd,if_pos hd]; rfl
  ·rw [if_neg hd,if_neg hd]; rfl
 have hhas:hasJ (dataJ e) (dataNs e.k).length=true:=by
  unfold hasJ
  rw [show (dataJ e).k=6#8 from rfl,show (dataJ e).ns=dataNs e.k from rfl,show (dataJ e).l=dataL e from rfl,hdl]
  simp
 have hnums:nums (dataJ e) (evNs e.k)=some e.N :=
  nums_at (v:=dataJ e) (evNs e.k) e.N (p:=[]) (pl:=[]) (r:=if evData e.k=true then [idB] else []) (rl:=if evData e.k=true then [tText (hexB e.D)] else []) rfl rfl rfl hN hnd
 unfold fillM
 rw [hhas,if_neg (by decide),hnums]
 dsimp only
 by_cases hd:evData e.k=true
 ·rw [if_pos hd]
  have hm:memJ (dataJ e) idB 4#8=some (tText (hexB e.D)):=by
   refine memJ_at (p:=evNs e.k) (r:=[]) (pl:=e.N.map tNum) (rl:=[]) ?_ ?_ (by rw [List.length_map,hN]) ?_ rfl
   ·show dataNs e.k=_
    unfold dataNs; rw [if_pos hd]
   ·show dataL e=_
    unfold dataL; rw [if_pos hd]
   ·intro hs
    have g:=g2
    unfold dataNs at g
    rw [if_pos hd] at g
    exact (List.nodup_append.1 g).2.2 idB hs idB (List.mem_singleton.2 rfl) rfl
  rw [hm]
  dsimp only
  rw [show (tText (hexB e.D)).s=hexB e.D from rfl,unhex_hex]
  rfl
 ·rw [if_neg hd,h4 (by simpa using hd)]
theorem prtM_ok {es:List Ev} (h:prtM es=0):es.length≤2048∧prtF es 0#64=0:=by
 unfold prtM at h
 split at h
 ·cases h
 ·exact ⟨by omega,h⟩
theorem leaf_num (n:BitVec 64):leaf (tNum n):=⟨rfl,rfl,.inl rfl,.inr rfl,by show 3≤4; decide,Utf.nil⟩
theorem leaf_text {s:Bs} (h:Utf s):leaf (tText s):=⟨rfl,rfl,.inr rfl,.inl rfl,by show 4≤4; decide,h⟩
theorem hexd_fin:∀ c:Fin 16,(hexd c.val).toNat<128:=by decide +kernel
theorem hexB_ascii (D:Bs):∀ c∈hexB D,c.toNat<128:=by
 intro c hc
 unfold hexB at hc
 rw [List.mem_flatMap] at hc
 obtain ⟨d,_,hd⟩:=hc
 have:=d.isLt
 simp only [List.mem_cons,List.not_mem_nil,or_false] at hd
 rcases hd with rfl|rfl
 ·exact hexd_fin ⟨d.toNat / 16,by omega⟩
 ·exact hexd_fin ⟨d.toNat % 16,by omega⟩
theorem nd3:[timeB,nameB,dataB].Nodup:=by decide
theorem nd2:[verB,evsB].Nodup:=by decide
theorem norm_ev {e:Ev} (h:checkM e=0):norm 2 (evJ e):=by
 obtain ⟨h1,h2,h3,h4⟩:=check_ok h
 obtain ⟨g1,g2,g3,g4⟩:=nm_ok h1
 refine .inr ⟨rfl,rfl,fun x hx=>?_,.inr ⟨rfl,rfl,nd3,fun s hs=>?_⟩⟩
 ·simp only [evJ,JT.l,List.mem_cons,List.not_mem_nil,or_false] at hx
  rcases hx with rfl|rfl|rfl
  ·exact .inl (leaf_num _)
  ·exact .inl (leaf_text (Utf.ascii g4))
  ·refine .inr ⟨rfl,rfl,fun x hx=>?_,.inr ⟨rfl,?_,g2,fun s hs=>Utf.ascii (g3 s hs)⟩⟩
   ·have hx:x∈dataL e:=hx
    unfold dataL at hx
    rcases List.mem_append.1 hx with hx|hx
    ·obtain ⟨n,_,rfl⟩:=List.mem_map.1 hx
     exact leaf_num n
    ·split at hx
     ·rw [List.mem_singleton] at hx
      subst hx
      exact leaf_text (Utf.ascii (hexB_ascii _))
     ·cases hx
   ·show (dataNs e.k).length=(dataL e).length
    unfold dataL dataNs evNs
    rw [List.length_append,List.length_append,List.length_map,List.length_map,h2]
    by_cases hd:evData e.k=true
    ·rw [if_pos hd,if_pos hd]; rfl
    ·rw [if_neg hd,if_neg hd]; rfl
 ·have:∀ s∈[timeB,nameB,dataB],∀ c∈s,c.toNat<128:=by decide
  exact Utf.ascii (this s hs)
theorem prtF_all:∀ (es:List Ev) (t:BitVec 64),prtF es t=0→∀ e∈es,checkM e=0
 | [],_,_,_,he=>by cases he
 | x::es,t,h,e,he=>by
  rw [prtF] at h
  by_cases hc:checkM x=0
  ·rw [if_neg (not_not_intro hc)] at h
   by_cases hf:follM x t es.isEmpty=0
   ·rw [if_neg (not_not_intro hf)] at h
    rcases List.mem_cons.1 he with rfl|he
    ·exact hc
    ·exact prtF_all es x.t h e he
   ·rw [if_pos hf] at h
    exact absurd h hf
  ·rw [if_pos hc] at h
   exact absurd h hc
theorem norm_root {es:List Ev} (h:prtM es=0):norm 4 (rootJ es):=by
 obtain ⟨h1,h2⟩:=prtM_ok h
 refine .inr ⟨rfl,rfl,fun x hx=>?_,.inr ⟨rfl,rfl,nd2,fun s hs=>?_⟩⟩
 ·simp only [rootJ,JT.l,List.mem_cons,List.not_mem_nil,or_false] at hx
  rcases hx with rfl|rfl
  ·exact .inl (leaf_text (Utf.ascii (by decide)))
  ·refine .inr ⟨rfl,rfl,fun y hy=>?_,.inl ⟨rfl,rfl⟩⟩
   obtain ⟨e,he,rfl⟩:=List.mem_map.1 hy
   exact norm_ev (prtF_all es _ h2 e he)
 ·have:∀ s∈[verB,evsB],∀ c∈s,c.toNat<128:=by decide
  exact Utf.ascii (this s hs)
end Qj
end
section
namespace Qj
open Sha Js Ev
theorem putL_le {pv:JT→Bs} {B:Nat}:∀ {l:List JT},(∀ x∈l,(pv x).length≤B)→(putL pv l).length≤l.length*(B+1)
 | [],_=>Nat.zero_le _
 | [x],h=>by
  have:=h x (List.mem_cons_self ..)
  show (pv x).length≤1*(B+1)
  omega
 | x::y::l,h=>by
  have h1:=h x (List.mem_cons_self ..)
  have h2:=putL_le fun z hz=>h z (List.mem_cons_of_mem _ hz)
  rw [putL_cons _ _ _ (by simp),List.length_append,List.length_cons,List.length_cons (a:=x),Nat.add_mul]
  omega
theorem putO_le {pv:JT→Bs} {B Q:Nat}:∀ {ns:List Bs} {l:List JT},(∀ x∈l,(pv x).length≤B)→(∀ s∈ns,(quote s).length≤Q)→(putO pv ns l).length≤l.length*(B+Q+2)
 | [],[],_,_=>Nat.zero_le _
 | _::_,[],_,_=>Nat.zero_le _
 | [],_::_,_,_=>Nat.zero_le _
 | s::ns,[x],h,hq=>by
  have h1:=h x (List.mem_cons_self ..)
  have h2:=hq s (List.mem_cons_self ..)
  show (quote s++58#8::pv x).length≤1*(B+Q+2)
  rw [List.length_append,List.length_cons]
  omega
 | s::ns,x::y::l,h,hq=>by
  have h1:=h x (List.mem_cons_self ..)
  have h2:=hq s (List.mem_cons_self ..)
  have h3:=putO_le (fun z hz=>h z (List.mem_cons_of_mem _ hz)) (fun z hz=>hq z (List.mem_cons_of_mem _ hz))
  rw [putO_cons _ _ _ _ _ (by simp),List.length_append,List.length_cons,List.length_append,List.length_cons,List.length_cons (a:=x),Nat.add_mul]
  omega
end Qj
end
section
namespace Qj
open Sha Js Ev
def plc (c:BitVec 8):Bool:=decide (32≤c.toNat∧c.toNat<128∧c.toNat≠34∧c.toNat≠92)
theorem plain_flat:∀ s:Bs,s.all plc=true→(s.map BitVec.toNat).flatMap enc=s∧(s.map BitVec.toNat).flatMap qr=s∧∀ r∈s.map BitVec.toNat,scal r
 | [],_=>⟨rfl,rfl,by simp⟩
 | c::s,h=>by
  rw [List.all_cons,Bool.and_eq_true] at h
  obtain ⟨g1,g2,g3⟩:=plain_flat s h.2
  have hc:=of_decide_eq_true h.1
  have e1:enc c.toNat=[c]:=by unfold enc; rw [if_pos hc.2.1,b8_self]
  have e2:qr c.toNat=[c]:=by
   unfold qr
   rw [if_neg (by omega),if_neg (by omega),if_neg (by omega),if_neg (by omega),if_neg (by omega),e1]
  refine ⟨by rw [List.map_cons,List.flatMap_cons,g1,e1]; rfl,by rw [List.map_cons,List.flatMap_cons,g2,e2]; rfl,fun r hr=>?_⟩
  rw [List.map_cons,List.mem_cons] at hr
  rcases hr with rfl|hr
  ·exact .inl (by omega)
  ·exact g3 r hr
theorem quote_plain {s:Bs} (h:s.all plc=true):(quote s).length=s.length+2:=by
 obtain ⟨g1,g2,g3⟩:=plain_flat s h
 have:=quote_of g3
 rw [g1,g2] at this
 rw [this]
 simp
theorem sz_fin:∀ k:Fin 20,1≤k.val→((dataNs (BitVec.ofNat 8 k.val)).all fun s=>s.all plc && decide (s.length≤24))=true∧(dataNs (BitVec.ofNat 8 k.val)).length≤10∧(evNm (BitVec.ofNat 8 k.val)).all plc=true∧(evNm (BitVec.ofNat 8 k.val)).length≤32:=by decide +kernel
theorem hexd_pl:∀ c:Fin 16,plc (hexd c.val)=true:=by decide +kernel
theorem hexB_pl (D:Bs):(hexB D).all plc=true:=by
 rw [List.all_eq_true]
 intro c hc
 unfold hexB at hc
 rw [List.mem_flatMap] at hc
 obtain ⟨d,_,hd⟩:=hc
 have:=d.isLt
 simp only [List.mem_cons,List.not_mem_nil,or_false] at hd
 rcases hd with rfl|rfl
 ·exact hexd_pl ⟨d.toNat / 16,by omega⟩
 ·exact hexd_pl ⟨d.toNat % 16,by omega⟩
theorem hexB_n2:∀ D:Bs,(hexB D).length=2*D.length
 | []=>rfl
 | c::D=>by
  have:=hexB_n2 D
  have e:hexB (c::D)=hexd (c.toNat / 16)::hexd (c.toNat % 16)::hexB D:=rfl
  rw [e,List.length_cons,List.length_cons,List.length_cons,this]
  omega
theorem num_len (d:Nat) (n:BitVec 64):(put d (tNum n)).length≤20:=by
 rw [put_leaf (leaf_num n)]
 show (dig n.toNat).length≤20
 have:=n.isLt
 exact digs_len 20 n.toNat 20 (by omega) (by decide)
theorem text_len (d:Nat) {s:Bs} (h:s.all plc=true) (hu:Utf s):(put d (tText s)).length=s.length+2:=by
 rw [put_leaf (leaf_text hu)]
 show (quote s).length=_
 exact quote_plain h
theorem obj_len {d:Nat} {s:Bs} {n:BitVec 64} {l:List JT} {ns:List Bs} {B Q:Nat} (h:∀ x∈l,(put d x).length≤B) (hq:∀ s∈ns,(quote s).length≤Q):(put (d+1) (.mk 6#8 n s l ns)).length≤l.length*(B+Q+2)+2:=by
 show (123#8::(putO (put d) ns l++[125#8])).length≤_
 have:=putO_le (ns:=ns) h hq
 rw [List.length_cons,List.length_append]
 show _+1+1≤_
 omega
theorem lst_len {d:Nat} {s:Bs} {n:BitVec 64} {l:List JT} {ns:List Bs} {B:Nat} (h:∀ x∈l,(put d x).length≤B):(put (d+1) (.mk 5#8 n s l ns)).length≤l.length*(B+1)+2:=by
 show (91#8::(putL (put d) l++[93#8])).length≤_
 have:=putL_le h
 rw [List.length_cons,List.length_append]
 show _+1+1≤_
 omega
theorem ev_len {e:Ev} (h:checkM e=0):(put 2 (evJ e)).length≤2132:=by
 obtain ⟨h1,h2,h3,h4⟩:=check_ok h
 have hk:=of_decide_eq_true h1
 obtain ⟨g1,g2,g3,g4⟩:=sz_fin ⟨e.k.toNat,by omega⟩ hk.1
 dsimp only at g1 g2 g3 g4
 rw [BitVec.ofNat_toNat,BitVec.setWidth_eq] at g1 g2 g3 g4
 obtain ⟨_,_,_,u4⟩:=nm_ok h1
 have hdl:(dataL e).length=(dataNs e.k).length:=by
  unfold dataL dataNs evNs
  rw [List.length_append,List.length_append,List.length_map,List.length_map,h2]
  by_cases hd:evData e.k=true
  ·rw [if_pos hd,if_pos hd]; rfl
  ·rw [if_neg hd,if_neg hd]; rfl
 have hdat:(put 1 (dataJ e)).length≤702:=by
  have:=obj_len (d:=0) (s:=[]) (n:=0#64) (l:=dataL e) (ns:=dataNs e.k) (B:=42) (Q:=26) (fun x hx=>by
   unfold dataL at hx
   rcases List.mem_append.1 hx with hx|hx
   ·obtain ⟨n,_,rfl⟩:=List.mem_map.1 hx
    exact Nat.le_trans (num_len 0 n) (by decide)
   ·split at hx
    ·rw [List.mem_singleton] at hx
     subst hx
     rw [text_len 0 (hexB_pl _) (Utf.ascii (hexB_ascii _)),hexB_n2]
     omega
    ·cases hx) (fun s hs=>by
   rw [List.all_eq_true] at g1
   have g:=g1 s hs
   rw [Bool.and_eq_true] at g
   rw [quote_plain g.1]
   have:=of_decide_eq_true g.2
   omega)
  refine Nat.le_trans this ?_
  have:(dataL e).length*(42+26+2)≤10*70:=Nat.mul_le_mul (by omega) (by decide)
  omega
 refine Nat.le_trans (obj_len (d:=1) (s:=[]) (n:=0#64) (ns:=[timeB,nameB,dataB]) (B:=702) (Q:=6) (l:=[tNum e.t,tText (evNm e.k),dataJ e]) (fun x hx=>?_) (fun s hs=>?_)) (show 3*(702+6+2)+2≤2132 by omega)
 ·simp only [List.mem_cons,List.not_mem_nil,or_false] at hx
  rcases hx with rfl|rfl|rfl
  ·exact Nat.le_trans (num_len 1 _) (by decide)
  ·rw [text_len 1 g3 (Utf.ascii u4)]; omega
  ·exact hdat
 ·have:∀ s∈[timeB,nameB,dataB],(quote s).length≤6:=by decide
  exact this s hs
theorem q2:∀ s∈[verB,evsB],(quote s).length≤14:=by
 intro s hs
 simp only [List.mem_cons,List.not_mem_nil,or_false] at hs
 rcases hs with rfl|rfl
 ·rw [quote_plain (by decide)]; decide
 ·rw [quote_plain (by decide)]; decide
theorem root_len {es:List Ev} (h:prtM es=0):(put 4 (rootJ es)).length≤es.length*4266+1000:=by
 obtain ⟨h1,h2⟩:=prtM_ok h
 have hl:(put 3 (.mk 5#8 0#64 [] (es.map evJ) [])).length≤(es.map evJ).length*(2132+1)+2:=lst_len (d:=2) fun x hx=>by
  obtain ⟨e,he,rfl⟩:=List.mem_map.1 hx
  exact ev_len (prtF_all es _ h2 e he)
 rw [List.length_map] at hl
 have:=obj_len (d:=3) (s:=[]) (n:=0#64) (l:=[tText v03B,.mk 5#8 0#64 [] (es.map evJ) []]) (ns:=[verB,evsB]) (B:=es.length*2133+7) (Q:=14) (fun x hx=>by
  simp only [List.mem_cons,List.not_mem_nil,or_false] at hx
  rcases hx with rfl|rfl
  ·rw [text_len 3 (by decide) (Utf.ascii (by decide))]
   show 3+2≤_
   omega
  ·exact Nat.le_trans hl (by omega)) (fun s hs=>q2 s hs)
 refine Nat.le_trans this ?_
 show 2*(es.length*2133+7+14+2)+2≤_
 omega
end Qj
end
section
namespace Qj
open Sha Js Ev
theorem idxN_get {s:Bs}:∀ {l:List Bs} {i:Nat},idxN s l=some i→l[i]?=some s
 | [],_,h=>by cases h
 | x::l,i,h=>by
  unfold idxN at h
  split at h
  ·rename_i e
   injection h with h
   subst h; subst e
   rfl
  ·cases hx:idxN s l with
   | none=>rw [hx] at h; cases h
   | some j =>
    rw [hx] at h
    injection h with h
    subst h
    show (x::l)[j+1]?=some s
    rw [List.getElem?_cons_succ]
    exact idxN_get hx
theorem zip_mem {α β:Type} {l:List α} {m:List β} {i:Nat} {a:α} {b:β} (h1:l[i]?=some a) (h2:m[i]?=some b):(a,b)∈l.zip m :=
 List.mem_of_getElem? (List.getElem?_zip_eq_some.2 ⟨h1,h2⟩)
end Qj
end
section
namespace Qj
open Sha Js Ev
theorem zip_uniq {α β:Type}:∀ {ns:List α} {l:List β} {s:α} {x y:β},ns.Nodup→(s,x)∈ns.zip l→(s,y)∈ns.zip l→x=y
 | [],_,_,_,_,_,h,_=>by simp at h
 | _::_,[],_,_,_,_,h,_=>by simp at h
 | a::ns,b::l,s,x,y,hn,h1,h2=>by
  rw [List.nodup_cons] at hn
  rw [List.zip_cons_cons,List.mem_cons] at h1 h2
  have key:∀ {z:β},(s,z)∈ns.zip l→s∈ns:=fun h=>(List.of_mem_zip h).1
  rcases h1 with h1|h1
  ·rcases h2 with h2|h2
   ·rw [Prod.mk.injEq] at h1 h2
    rw [h1.2,h2.2]
   ·rw [Prod.mk.injEq] at h1
    exact absurd (key h2) (by rw [h1.1]; exact hn.1)
  ·rcases h2 with h2|h2
   ·rw [Prod.mk.injEq] at h2
    exact absurd (key h1) (by rw [h2.1]; exact hn.1)
   ·exact zip_uniq hn.2 h1 h2
theorem idxN_some {s:Bs}:∀ {l:List Bs},s∈l→∃ i,idxN s l=some i
 | [],h=>by cases h
 | x::l,h=>by
  unfold idxN
  by_cases e:s=x
  ·exact ⟨0,if_pos e⟩
  ·rw [if_neg e]
   rcases List.mem_cons.1 h with h|h
   ·exact absurd h e
   ·obtain ⟨i,hi⟩:=idxN_some h
    exact ⟨i+1,by rw [hi]; rfl⟩
theorem idxN_none {s:Bs} {l:List Bs} (h:s ∉ l):idxN s l=none:=by
 cases hi:idxN s l with
 | none=>rfl
 | some i=>exact absurd (List.mem_of_getElem? (idxN_get hi)) h
theorem memJ_at' {v:JT} {s:Bs} {x:JT} (k:BitVec 8) (hl:v.ns.length=v.l.length) (h:∀ y,(s,y)∈v.ns.zip v.l→y=x) (hs:s∈v.ns):memJ v s k=if x.k=k then some x else none:=by
 obtain ⟨i,hi⟩:=idxN_some hs
 have hi2:=idxN_get hi
 have hil:i<v.l.length:=by rw [← hl]; exact (List.getElem?_eq_some_iff.1 hi2).1
 have hx:v.l[i]?=some (v.l[i]'hil):=List.getElem?_eq_getElem hil
 have:=h _ (zip_mem hi2 hx)
 rw [this] at hx
 unfold memJ
 rw [hi]
 dsimp only
 rw [hx]
theorem memJ_same {v w:JT} (hn:v.ns.Nodup) (hl:v.ns.length=v.l.length) (hl2:w.ns.length=w.l.length) (h:∀ p,p∈w.ns.zip w.l ↔ p∈v.ns.zip v.l) (s:Bs) (k:BitVec 8):memJ w s k=memJ v s k:=by
 have mem:∀ {u:JT},u.ns.length=u.l.length→s∈u.ns→∃ x,(s,x)∈u.ns.zip u.l:=fun {u} hl hs=>by
  obtain ⟨i,hi,he⟩:=List.mem_iff_getElem.1 hs
  exact ⟨u.l[i]'(by omega),zip_mem (i:=i) (by rw [List.getElem?_eq_getElem hi,he]) (List.getElem?_eq_getElem (by omega))⟩
 by_cases hs:s∈v.ns
 ·obtain ⟨x,hx⟩:=mem hl hs
  have hsw:s∈w.ns:=(List.of_mem_zip ((h _).2 hx)).1
  rw [memJ_at' k hl (fun y hy=>zip_uniq hn hy hx) hs,memJ_at' k hl2 (fun y hy=>zip_uniq hn ((h _).1 hy) hx) hsw]
 ·have hsw:s ∉ w.ns:=fun hc=>by
   obtain ⟨x,hx⟩:=mem hl2 hc
   exact hs (List.of_mem_zip ((h _).1 hx)).1
  unfold memJ
  rw [idxN_none hs,idxN_none hsw]
theorem rotT_zip {α β:Type} {b:Nat} {l:List α} {m:List β} (h:l.length=m.length) (h0:0<l.length):∀ i,(rotT b l i).zip (rotT b m i)=rotT b (l.zip m) i
 | 0=>rfl
 | i+1=>by
  have hz:0<(l.zip m).length:=by rw [List.length_zip]; omega
  rw [rotT_step h0,rotT_step (by omega),rotT_step hz,List.zip_append (by rw [rotT_len h0,rotT_len (by omega)]),rotT_zip h h0 i]
  congr 1
  simp only [List.zip_cons_cons,List.zip_nil_right,List.length_zip,List.getElem_zip,← h,Nat.min_self]
theorem rotT_sub {α:Type} {b:Nat} {l:List α} (h:0<l.length):∀ i x,x∈rotT b l i→x∈l
 | 0,x,hx=>by cases hx
 | i+1,x,hx=>by
  rw [rotT_step h,List.mem_append,List.mem_singleton] at hx
  rcases hx with hx|rfl
  ·exact rotT_sub h i x hx
  ·exact List.getElem_mem _
theorem rotT_has {α:Type} {b:Nat} {l:List α} (h:0<l.length):∀ n i,i<n→(l[(i+b) % l.length]'(Nat.mod_lt _ h))∈rotT b l n
 | 0,i,hi=>by omega
 | n+1,i,hi=>by
  rw [rotT_step h,List.mem_append]
  rcases Nat.lt_or_ge i n with hn|hn
  ·exact .inl (rotT_has h n i hn)
  ·obtain rfl:i=n:=by omega
   exact .inr (List.mem_singleton.2 rfl)
theorem rotT_all {α:Type} {b:Nat} {l:List α} (h:0<l.length) {x:α} (hx:x∈l):x∈rotT b l l.length:=by
 obtain ⟨j,hj,rfl⟩:=List.mem_iff_getElem.1 hx
 have hb:=Nat.mod_lt b h
 have hi:(j+(l.length-b % l.length)) % l.length<l.length:=Nat.mod_lt _ h
 have:=rotT_has (b:=b) h l.length _ hi
 have e:((j+(l.length-b % l.length)) % l.length+b) % l.length=j:=by
  rw [Nat.mod_add_mod,← Nat.add_mod_mod,show j+(l.length-b % l.length)+b % l.length=j+l.length by omega,Nat.add_mod_right,Nat.mod_eq_of_lt hj]
 simp only [e] at this
 exact this
theorem memJ_rot {o:JT} (b:Nat) {n:Nat} (hn:o.ns.Nodup) (hl:o.l.length=n) (hns:o.ns.length=n) (s:Bs) (k:BitVec 8):memJ (rotJ b n o) s k=memJ o s k:=by
 rcases Nat.eq_zero_or_pos n with h0|h0
 ·subst h0
  have h1:o.ns=[]:=List.eq_nil_of_length_eq_zero hns
  unfold memJ
  rw [h1]
  rfl
 ·refine memJ_same (v:=o) (w:=rotJ b n o) hn (by omega) (show (rotT b o.ns n).length=(rotT b o.l n).length by rw [rotT_len (by omega),rotT_len (by omega)]) (fun p=>?_) s k
  show p∈(rotT b o.ns n).zip (rotT b o.l n) ↔ _
  have hz:0<(o.ns.zip o.l).length:=by rw [List.length_zip]; omega
  have hzl:(o.ns.zip o.l).length=n:=by rw [List.length_zip]; omega
  rw [rotT_zip (by omega) (by omega)]
  refine ⟨rotT_sub hz n p,fun h=>?_⟩
  have:=rotT_all (b:=b) hz h
  rwa [hzl] at this
theorem nums_same {v w:JT} (h:∀ s k,memJ w s k=memJ v s k):∀ l,nums w l=nums v l
 | []=>rfl
 | s::l=>by unfold nums; rw [h,nums_same h l]
theorem data_len {e:Ev} (h:checkM e=0):(dataJ e).l.length=(dataNs e.k).length∧(dataJ e).ns.length=(dataNs e.k).length∧(dataNs e.k).length≤10:=by
 obtain ⟨h1,h2,_,_⟩:=check_ok h
 refine ⟨?_,rfl,?_⟩
 ·show (dataL e).length=_
  unfold dataL dataNs evNs
  rw [List.length_append,List.length_append,List.length_map,List.length_map,h2]
  split <;> rfl
 ·have:=names_le9 e.k
  unfold dataNs evNs
  rw [List.length_append,List.length_map]
  split
  ·show _+1≤10; omega
  ·show _+0≤10; omega
theorem fill_rot {e:Ev} (h:checkM e=0) (b:Nat):fillM e.k (rotJ b (dataNs e.k).length (dataJ e))=some (e.N,e.D):=by
 rw [← fill_back h]
 obtain ⟨h1,h2,_⟩:=data_len h
 obtain ⟨_,hnd,_,_⟩:=nm_ok (check_ok h).1
 have hm:=memJ_rot (o:=dataJ e) b hnd h1 h2
 have hh:hasJ (rotJ b (dataNs e.k).length (dataJ e)) (dataNs e.k).length=hasJ (dataJ e) (dataNs e.k).length:=by
  have e1:(rotT b (dataJ e).l (dataNs e.k).length).length=(dataJ e).l.length:=by
   rcases Nat.eq_zero_or_pos (dataNs e.k).length with h0|h0
   ·rw [h0] at h1 ⊢; rw [h1]; rfl
   ·rw [rotT_len (by omega),h1]
  have e2:(rotT b (dataJ e).ns (dataNs e.k).length).length=(dataJ e).ns.length:=by
   rcases Nat.eq_zero_or_pos (dataNs e.k).length with h0|h0
   ·rw [h0] at h2 ⊢; rw [h2]; rfl
   ·rw [rotT_len (by omega),h2]
  show (decide (6#8=6#8) && (decide ((rotT b (dataJ e).ns (dataNs e.k).length).length=_) && decide ((rotT b (dataJ e).l (dataNs e.k).length).length=_)))=_
  rw [e1,e2]
  rfl
 unfold fillM
 rw [hh,nums_same hm,hm]
theorem evOf_of {v d:JT} {e:Ev} (h:checkM e=0) (h1:memJ v timeB 3#8=some (tNum e.t)) (h2:memJ v nameB 4#8=some (tText (evNm e.k))) (h3:memJ v dataB 6#8=some d) (h4:hasJ v 3=true) (h5:fillM e.k d=some (e.N,e.D)):evOf v=.inl e:=by
 unfold evOf
 rw [h1,h2,h3]
 dsimp only
 rw [h4,if_neg (by decide),show (tText (evNm e.k)).s=evNm e.k from rfl,(nm_ok (check_ok h).1).1]
 dsimp only
 rw [h5]
 dsimp only
 rw [show (⟨e.k,(tNum e.t).n,e.N,e.D⟩:Ev)=e from rfl,if_pos h]
def moreB:Bs:=[109#8,111#8,114#8,101#8]
def noB:Bs:=[110#8,111#8,95#8,115#8,117#8,99#8,104#8]
theorem evOf_kind {v d:JT} {t:BitVec 64} (h1:memJ v timeB 3#8=some (tNum t)) (h2:memJ v nameB 4#8=some (tText noB)) (h3:memJ v dataB 6#8=some d) (h4:hasJ v 3=true):evOf v=.inr 5:=by
 unfold evOf
 rw [h1,h2,h3]
 dsimp only
 rw [h4,if_neg (by decide),show namedM (tText noB).s=none from by decide +kernel]
theorem evOf_data {v d:JT} {e:Ev} (h:checkM e=0) (h1:memJ v timeB 3#8=some (tNum e.t)) (h2:memJ v nameB 4#8=some (tText (evNm e.k))) (h3:memJ v dataB 6#8=some d) (h4:hasJ v 3=true) (h5:d.ns.length≠(dataNs e.k).length):evOf v=.inr 4:=by
 unfold evOf
 rw [h1,h2,h3]
 dsimp only
 rw [h4,if_neg (by decide),show (tText (evNm e.k)).s=evNm e.k from rfl,(nm_ok (check_ok h).1).1]
 dsimp only
 have:fillM e.k d=none:=by
  unfold fillM
  rw [if_pos]
  unfold hasJ
  rw [decide_eq_false h5]
  simp
 rw [this]
end Qj
end
section
namespace Sx
open Go.RowKit
section
variable {C : Cx}
theorem entW_frzU {X:Type} {s:St} {inv:X→St} {p:X→Prop} (q:List Nat) {W:World} {ms:List Nat} (hp:getH s.h 0=[.past W ms]) (hro:0<C.ro) (hm:∀ B∈C.m,∃ (j f:Nat),C.ro≤j∧C.r0[j]?=some (B,f))
  (hq:(pref C.r0.length 0 q && allLt q s.h.length && allNe s.h (q.drop C.ro) && allGe C.ro (q.drop C.ro))=true)
  (hk:∀ (W':World) (ms':List Nat) (α:Nat→Addr),Later W ms W' ms'→(∀ i,(Nat.blt i s.h.length && Nat.ble C.ro i && !memB i q)=true→flat (getH s.h i)≠[]→ImAt W' ms' (α i) (((flat (getH s.h i)).map (SC.rz (fun j=>!memB j q) α)).map SC.raw)∧(marksOk=false→Unm W' ms' (α i))) →
   ∃ x t hs,Ent C q ⟨rzT (fun j=>!memB j q) α s.t,rzH (fun j=>!memB j q) α s.h⟩ ⟨t,[.past W ms]::hs⟩∧inv x=⟨t,[.past W' ms']::hs⟩∧p x):EntW C s inv p:=by
 intro r a w ok0
 obtain ⟨t0,h⟩:=s
 have ok:=ok0.heap
 dsimp only at hp hq hk ok
 simp only [Bool.and_eq_true] at hq
 obtain ⟨⟨⟨hpf,hq1⟩,hq2⟩,hq3⟩:=hq
 have hll:=allLt_spec hq1
 have hst:=allNe_spec hq2
 have hge:=allGe_spec hq3
 have hlen:=ok.len
 have hp':=getH_ne hp
 have hqr:∀ i∈q,i<r.length:=fun i hi=>by rw [hlen]; exact hll i hi
 let α:Nat→Addr:=fun i=>match r[i]? with
  | some (B,f)=>⟨B,f,none⟩
  | none=>⟨0,0,none⟩
 have hα:Lies (fun j=>!memB j q) α r:=fun i B f _ e=>by simp only [α,e]
 classical
 obtain ⟨ms',hms'⟩:∃ l,((rn q r).drop C.ro).map (·.1)++(List.range C.w0.heap.size).filter (fun B=>decide (¬ C.safe B))=l:=⟨_,rfl⟩
 have look:∀ (i B f:Nat),C.ro≤i→(rn q r)[i]?=some (B,f)→∃ j,j∈q.drop C.ro∧r[j]?=some (B,f):=by
  intro i B f hi e
  cases hqi:q[i]? with
  | none=>rw [rn,List.getElem?_map,hqi] at e; cases e
  | some j=>exact ⟨j,List.mem_of_getElem? (i:=i-C.ro) (by rw [List.getElem?_drop,show C.ro+(i-C.ro)=i by omega]; exact hqi),by rw [← rn_get hqr hqi]; exact e⟩
 have inms:∀ B,B∈ms'→(∃ j,j∈q.drop C.ro∧∃ f,r[j]?=some (B,f))∨(B<C.w0.heap.size∧¬ C.safe B):=by
  intro B hB
  rw [← hms'] at hB
  rcases List.mem_append.1 hB with hB|hB
  ·obtain ⟨i,f,hi,e⟩:=mem_drop.1 hB
   obtain ⟨j,hj,e2⟩:=look i B f hi e
   exact .inl ⟨j,hj,f,e2⟩
  ·simp only [List.mem_filter,List.mem_range,decide_eq_true_eq] at hB
   exact .inr hB
 have hhi:∀ i,i<h.length→h[i]?=some (getH h i):=fun i hi=>by rw [getH_eq,List.getElem?_eq_getElem hi]; rfl
 have hqs:∀ i∈q.drop C.ro,i∈q:=fun i hi=>List.mem_of_mem_drop hi
 obtain ⟨p1,p2,p3⟩:=ok.past 0 W ms hp'
 have hL:Later W ms w ms':=⟨p1,fun B h1 h2 hc=>by
  rcases inms B hc with ⟨j,hj,f,e⟩|⟨h3,h4⟩
  ·exact h2 (p3 j B f (hge j hj) e h1)
  ·exact h4 (p2 B h3 h1 h2)⟩
 have facts:∀ i,i<h.length→C.ro≤i→memB i q=false→flat (getH h i)≠[]→ImAt w ms' (α i) (((flat (getH h i)).map (SC.rz (fun j=>!memB j q) α)).map SC.raw)∧(marksOk=false→Unm w ms' (α i)):=by
  intro i hil hio hiq hfl
  have hnq:i ∉ q:=fun hc=>by rw [memB_iff.2 hc] at hiq; cases hiq
  obtain ⟨⟨B,f⟩,hr⟩:∃ x,r[i]?=some x:=⟨_,List.getElem?_eq_getElem (by rw [hlen]; exact hil)⟩
  have hAt:=(ok.chunk hr).rz hα
  have e:α i=⟨B,f,none⟩:=by simp only [α,hr]
  rw [e]
  have clash:∀ j,j∈q.drop C.ro→∀ f',r[j]?≠some (B,f'):=by
   intro j hj f' hr'
   have hij:i≠j:=fun e=>hnq (e ▸ hqs j hj)
   rcases ok.apart i j B f f' _ _ hij hio (hge j hj) (hhi i hil) (hhi j (hll j (hqs j hj))) hr hr' with h|h
   ·rw [h] at hfl; exact hfl rfl
   ·exact stirs_ne (hst j hj) h
  have hnin:B ∉ ms':=by
   intro hc
   rcases inms B hc with ⟨j,hj,f',hr'⟩|⟨h3,h4⟩
   ·exact clash j hj f' hr'
   ·rcases ok.own i B f hio hr with hB|hB
    ·obtain ⟨j,f',hj,e0⟩:=hm B hB
     have hjl:j<C.r0.length:=by
      rcases Nat.lt_or_ge j C.r0.length with h|h
      ·exact h
      ·rw [List.getElem?_eq_none h] at e0; cases e0
     have hqj:=pref_spec hpf j hjl
     rw [Nat.zero_add] at hqj
     exact clash j (List.mem_of_getElem? (i:=j-C.ro) (by rw [List.getElem?_drop,show C.ro+(j-C.ro)=j by omega]; exact hqj)) f' (ok.agree j _ e0)
    ·omega
  refine ⟨hAt.im ((ok.chunk hr).lt hfl) hnin,fun hmk=>?_⟩
  obtain ⟨x,hx⟩:∃ x,(flat (getH h i))[0]?=some x:=⟨_,List.getElem?_eq_getElem (List.length_pos_iff.2 hfl)⟩
  obtain ⟨v,e1,_,e3⟩:=ok.chunk hr 0 x hx
  exact (e3 (le_ble hio)).unm hmk (by rw [Nat.add_zero] at e1; exact e1) hnin
 obtain ⟨x,t,hs,hent,hinv,hres⟩:=hk w ms' α hL (fun i hi hf=>by
  simp only [Bool.and_eq_true,Bool.not_eq_true'] at hi
  exact facts i (by simpa using (Nat.blt_eq ▸ hi.1.1)) (ble_le hi.1.2) hi.2 hf)
 have ok1:Ok C ⟨rzT (fun j=>!memB j q) α t0,rzH (fun j=>!memB j q) α h⟩ r a w:=⟨ok.rz hα,by rw [ok0.size]; exact (rzT_len _ _ _).symm,fun d y e=>by
  obtain ⟨z,hz,rfl⟩:=rzT_get e
  exact (ok0.slots d z hz).rz hα,ok0.defers⟩
 have ok2:=hent.okN ok1
 have ok3:=ok2.heap.setPast (i0:=0) hro rfl (W':=w) (ms':=ms') (Ext.refl _ _) (fun B h1 h2 h3=>Classical.byContradiction fun hc=>h3 (by
  rw [← hms']
  exact List.mem_append.2 (.inr (by simp only [List.mem_filter,List.mem_range,decide_eq_true_eq]; exact ⟨h1,hc⟩)))) (fun j B f ho e _=>by
  rw [← hms']
  exact List.mem_append.2 (.inl (mem_drop.2 ⟨j,f,ho,e⟩)))
 refine ⟨x,rn q r,?_,hres⟩
 rw [hinv]
 exact ⟨ok3,ok2.size,ok2.slots,ok2.defers⟩
end
open Sha Vi Js Ev Qj
theorem jvS_raw (e:JT) (x:JC):∀ i,((flat (jvS e x)).getD i .any).raw=(flat (jvS e x)).getD i .any
 | 0=>rfl
 | 1=>rfl
 | 2=>rfl
 | 3=>rfl
 | 4=>rfl
 | _+5=>rfl
theorem TAt.row {W:World} {ms:List Nat} {d:Nat} {v:JT} {x:JC} (h:TAt W ms (d+1) v x) (hn:0<v.l.length):∃ A cs,x.a=some A∧RowJ W ms d cs v.l∧ImAt W ms A cs:=by
 obtain ⟨⟨m1,m2,m3,m4,m5⟩,_⟩:=h
 obtain ⟨A,hA0⟩:∃ A,x.a=some A:=by
  cases hx:x.a with
  | none=>have:=m4 hx; omega
  | some A=>exact ⟨A,rfl⟩
 have helt:=(m5 A hA0 (by omega)).2
 clear m1 m2 m3 m4 m5
 obtain ⟨es,hes⟩:∃ es,v.l=es:=⟨_,rfl⟩
 rw [hes] at helt hn ⊢
 have each:∀ k,∃ x:JC,∀ e,es[k]?=some e→ImAt W ms (A.add (k*5)) (flat (jvS e x))∧TAt W ms d e x:=by
  intro k
  by_cases hk:k<es.length
  ·obtain ⟨x,h1,h2⟩:=helt k _ (List.getElem?_eq_getElem hk)
   exact ⟨x,fun e he=>by rw [List.getElem?_eq_getElem hk] at he; injection he with he; subst he; exact ⟨h1,h2⟩⟩
  ·exact ⟨jc0,fun e he=>by rw [List.getElem?_eq_none (by omega)] at he; cases he⟩
 obtain ⟨g,hg⟩:=Classical.axiomOfChoice each
 let F:Nat→SC:=fun j=>(flat (jvS (es.getD (j / 5) jt0) (g (j / 5)))).getD (j % 5) .any
 have hF:∀ k e,es[k]?=some e→∀ i y,(flat (jvS e (g k)))[i]?=some y→F (k*5+i)=y∧i<5:=by
  intro k e he i y hy
  have hi:i<5:=(List.getElem?_eq_some_iff.1 hy).1
  refine ⟨?_,hi⟩
  show (flat (jvS (es.getD ((k*5+i) / 5) _) (g ((k*5+i) / 5)))).getD ((k*5+i) % 5) .any=y
  rw [show (k*5+i) / 5=k by omega,show (k*5+i) % 5=i by omega,List.getD_eq_getElem?_getD,List.getD_eq_getElem?_getD,he]
  show ((flat (jvS e (g k)))[i]?).getD .any=y
  rw [hy]; rfl
 refine ⟨A,(List.range (es.length*5)).map F,hA0,⟨by simp,fun x hx=>?_,fun k e he=>⟨g k,fun i y hy=>?_,(hg k e he).2⟩⟩,?_⟩
 ·obtain ⟨j,_,rfl⟩:=List.mem_map.1 hx
  exact jvS_raw _ _ _
 ·obtain ⟨h1,h2⟩:=hF k e he i y hy
  have hk:k<es.length:=(List.getElem?_eq_some_iff.1 he).1
  rw [List.getElem?_map,List.getElem?_range (by omega),Option.map_some,h1]
 ·have hz:=(hg 0 _ (List.getElem?_eq_getElem (by omega:0<es.length))).1
  have hA:A.spot=none:=by
   have:=hz.1
   obtain ⟨B,f,s⟩:=A
   unfold Addr.add at this
   cases s with
   | none=>rfl
   | some s=>exact this
  obtain ⟨B,f,s⟩:=A
  simp only at hA
  subst hA
  rw [add_none] at hz
  refine ⟨rfl,hz.2.1,hz.2.2.1,fun j x hx=>?_⟩
  have hj:j<es.length*5:=by have:=(List.getElem?_eq_some_iff.1 hx).1; simpa using this
  rw [List.getElem?_map,List.getElem?_range hj,Option.map_some] at hx
  injection hx with hx
  have hk:j / 5<es.length:=by omega
  have he:=List.getElem?_eq_getElem hk
  have hlt:j % 5<5:=by omega
  have hy:(flat (jvS es[j / 5] (g (j / 5))))[j % 5]?=some ((flat (jvS es[j / 5] (g (j / 5))))[j % 5]'(by show j % 5<5; exact hlt)):=List.getElem?_eq_getElem _
  obtain ⟨h1,h2⟩:=hF _ _ he _ _ hy
  obtain ⟨h3,_⟩:=hg _ _ he
  rw [add_none] at h3
  obtain ⟨v,e1,e2⟩:=h3.2.2.2 _ _ hy
  refine ⟨v,?_,?_⟩
  ·rw [← e1]; congr 2; show f+j=f+j / 5*5+j % 5; omega
  ·rw [← hx,show j=j / 5*5+j % 5 by omega,h1]; exact e2
end Sx
end
section
namespace Sx
open Go.RowKit Sha Vi Js Ev Qj
end Sx
end
section
namespace Qj
open Sha Js Ev
theorem putL_snoc {pv:JT→Bs} (x:JT):∀ l:List JT,putL pv (l++[x])=putL pv l++((if l=[] then [] else [44#8])++pv x)
 | []=>rfl
 | [y]=>by
  show pv y++44#8::pv x=pv y++((if [y]=[] then [] else [44#8])++pv x)
  rw [if_neg (by simp)]; rfl
 | y::z::l=>by
  have ih:=putL_snoc (pv:=pv) x (z::l)
  rw [if_neg (by simp)] at ih ⊢
  have e:y::z::l++[x]=y::(z::l++[x]):=rfl
  rw [e,putL_cons pv y (z::l++[x]) (by simp),ih,putL_cons pv y (z::l) (by simp)]
  simp
theorem putO_snoc {pv:JT→Bs} (x:JT) (t:Bs):∀ (ns:List Bs) (l:List JT),ns.length=l.length→putO pv (ns++[t]) (l++[x])=putO pv ns l++((if l=[] then [] else [44#8])++(quote t++58#8::pv x))
 | [],[],_=>rfl
 | [],_::_,h=>by simp at h
 | _::_,[],h=>by simp at h
 | s::ns,[y],h=>by
  obtain rfl:ns=[]:=List.eq_nil_of_length_eq_zero (by simpa using h)
  show quote s++58#8::(pv y++44#8::(quote t++58#8::pv x))=quote s++58#8::pv y++((if [y]=[] then [] else [44#8])++(quote t++58#8::pv x))
  rw [if_neg (by simp)]; simp
 | s::ns,y::z::l,h=>by
  have ih:=putO_snoc (pv:=pv) x t ns (z::l) (by simpa using h)
  rw [if_neg (by simp)] at ih ⊢
  have e:y::z::l++[x]=y::(z::l++[x]):=rfl
  have e2:s::ns++[t]=s::(ns++[t]):=rfl
  rw [e,e2,putO_cons pv s (ns++[t]) y (z::l++[x]) (by simp),ih,putO_cons pv s ns y (z::l) (by simp)]
  simp
def ev1:Bs:=123#8::(quote timeB++[58#8])
def ev2:Bs:=44#8::(quote nameB++[58#8,34#8])
end Qj
end
section
namespace Sx
open Go.RowKit Sha Vi Js Ev Qj
end Sx
end
section
namespace Sx
open Go.RowKit Sha Vi Js Ev Qj

def PrtA (W:World) (ms:List Nat) (es:List Ev) (y:SV) (hs:List (List Seg)):Prop :=
 ∃ W' ms',Later W ms W' ms'∧hs=[[.past W' ms']]∧y=if prtM es=0 then .tup [.c (.str (U8 (put 4 (rootJ es)))),.c (.int .i64 0)] else .tup [.c (.str []),.c (.int .i64 (prtM es))]
abbrev lo0:List Seg:=[.one (.w8 5#8),.one (.w64 0#64),.one (.str []),.one (.slc none 0 0),.one (.slc none 0 0)]
abbrev lo1 (i n c:Nat):List Seg:=[.one (.w8 5#8),.one (.w64 0#64),.one (.str []),.one (.sl i 0 0 n c),.one (.slc none 0 0)]
def lstJ (es:List Ev):JT:=.mk 5#8 0#64 [] (es.map evJ) []
set_option maxRecDepth 20000 in
set_option maxHeartbeats 32000000 in
theorem fn_qprint {W:World} {ms:List Nat} {a:Option Addr} {n c:Nat} {es:List Ev} (hT:Tabs W ms) (h:EvsAt W ms a n c es) (hp:prtM es=0→norm 4 (rootJ es)∧(put 4 (rootJ es)).length≤70368744177664):FnR Tryd.prog tds 24 1 [[.past W ms]] [.c (.slc a n c)] (fun _=>True) (PrtA W ms es):=by
 refine fn_of_bodyW tds_ok follows_ Tryd.func24 rfl (t:=.a (.c (.slc a n c))::anys (Tryd.f24.ntmps-1)) rfl (fun w r0 hr0 _=>?_)
 obtain ⟨x0,rfl⟩:=len1' hr0
 have hl:=h.len
 have hle:=h.le
 have hcap:=h.cap
 by_cases hn:2048<n
 ·have e0:decide ((2048:Int)<(n:Int))=true:=decide_eq_true (by omega)
  have hP:prtM es=7:=by unfold prtM; rw [if_pos (by omega)]
  (repeat show _∧_;first|refine yr ?_|refine yt ?_|refine yf ?_|refine ya e0 ?_|refine yb e0 ?_|refine yo ?_)
  exact FinW.of ⟨.tup [.c (.str []),.c (.int .i64 7)],_,⟨[0],⟨rfl,rfl,rfl⟩,by (repeat first|exact trivial|refine ent1 ?_)⟩,W,ms,Later.refl _ _,rfl,by rw [hP]; rfl⟩
 have e0:decide ((2048:Int)<(n:Int))=false:=decide_eq_false (by omega)
 have hP0:prtM es=prtF es 0#64:=by unfold prtM; rw [if_neg (by omega)]
 (repeat show _∧_;first|refine yr ?_|refine yt ?_|refine yf ?_|refine ya e0 ?_|refine yb e0 ?_|refine yo ?_)
 refine .inl ⟨Nat × BitVec 64 × Option (List SC × Nat) × World × List Nat,fun y=>match y with
  | (j,t,none,W',ms')=>⟨[.a (.c (.slc a n c)),.any,.a (.c (.str ([]))),.a (.c (.int .i64 (0))),.a (.c (.p 1 0 0)),.a (.c (.w64 (t))),.any,.any,.any,.any,.any,.any,.any,.any,.any,.a (.c (.slc a n c)),.a (.c (.int .i64 (n))),.a (.c (.int .i64 (((j:Nat):Int)))),.any,.any,.any,.any,.any,.any,.any,.any,.any,.any,.any,.any,.any,.any,.any,.any,.any,.any,.any,.any,.any,.any,.any,.any,.any,.any,.any,.any,.any,.any,.any,.any,.any,.any,.any,.any,.any,.any,.any,.any],[[.past W' ms'],lo0]⟩
  | (j,t,some (cs,cc),W',ms')=>⟨[.a (.c (.slc a n c)),.any,.a (.c (.str ([]))),.a (.c (.int .i64 (0))),.a (.c (.p 1 0 0)),.a (.c (.w64 (t))),.any,.any,.any,.any,.any,.any,.any,.any,.any,.a (.c (.slc a n c)),.a (.c (.int .i64 (n))),.a (.c (.int .i64 (((j:Nat):Int)))),.any,.any,.any,.any,.any,.any,.any,.any,.any,.any,.any,.any,.any,.any,.any,.any,.any,.any,.any,.any,.any,.any,.any,.any,.any,.any,.any,.any,.any,.any,.any,.any,.any,.any,.any,.any,.any,.any,.any,.any],[[.past W' ms'],lo1 2 j cc,[.row (scale cc (4+1)) (nthC cs)]]⟩,
  fun y=>match y with
  | (j,t,none,W',ms')=>j=0∧t=0#64∧Later W ms W' ms'
  | (j,t,some (cs,cc),W',ms')=>0<j∧j≤n∧j≤cc∧Later W ms W' ms'∧prtM es=prtF (es.drop j) t∧RowJ W' ms' 2 cs ((es.take j).map evJ),fun y=>n-y.1,⟨(0,0#64,none,W,ms),[0,1],⟨⟨rfl,rfl,rfl⟩,by (repeat first|exact trivial|refine ent1 ?_)⟩,rfl,rfl,Later.refl _ _⟩,fun y hy=>?_⟩
 rcases y with ⟨j,t,_|⟨cs,cc⟩,W',ms'⟩
 ·obtain ⟨rfl,rfl,hL'⟩:=hy
  dsimp only
  have hPj:prtM es=prtF (es.drop 0) 0#64:=by rw [List.drop_zero]; exact hP0
  by_cases hj:0<n
  rotate_left
  ·have e1:decide (((0:Nat):Int)<(n:Int))=false:=decide_eq_false (by omega)
   have hP:prtM es=0:=by rw [hPj,List.drop_eq_nil_of_le (by omega)]; rfl
   obtain rfl:es=[]:=List.eq_nil_of_length_eq_zero (by omega)
   (repeat show _∧_;first|refine yr ?_|refine yt ?_|refine yf ?_|refine ya e1 ?_|refine yb e1 ?_|refine yo ?_)
   refine call_same (fn_qtext v03B) [] rfl (by exact And.intro rfl trivial) trivial (fun _ _=>trivial) ?_
   rintro y hs ⟨rfl,rfl⟩
   (repeat show _∧_;first|refine yr ?_|refine yt ?_|refine yf ?_|refine yo ?_)
   refine call_same (fn_qadd0 (tText v03B) jc0 verB) [2] rfl (by (repeat first|exact trivial|refine ent1 ?_)) (by (repeat first|exact trivial|refine ent1 ?_)) (fun _ _=>trivial) ?_
   rintro y hs ⟨c3,d3,hc3,hd3,rfl,rfl⟩
   (repeat show _∧_;first|refine yr ?_|refine yt ?_|refine yf ?_|refine yo ?_)
   refine call_same (fn_qadd1 (flat (jvS (tText v03B) jc0)) [verB] 1 c3 d3 (jv_raw _ _) rfl rfl hc3 hd3 (by decide) (lstJ []) jc0 evsB) [2,3,4] rfl (by (repeat first|exact trivial|refine ent1 ?_)) ?_ (fun _ _=>trivial) ?_
   ·(repeat first|exact trivial|refine ent1 ?_)
    refine ⟨fun j hj=>eqJ_csM (jv_raw _ _) j,?_⟩
    (repeat first|exact trivial|refine ent1 ?_)
    exact ⟨fun j hj=>eqJ_csM (nmL_raw _) j,by (repeat first|exact trivial|refine ent1 ?_)⟩
   rintro y hs ⟨c4,d4,hc4,hd4,rfl,rfl⟩
   (repeat show _∧_;first|refine yr ?_|refine yt ?_|refine yf ?_|refine yo ?_)
   obtain ⟨hn4,hp4⟩:=hp hP
   refine call_lendU [5,6] 0 [] rfl rfl (by (repeat first|exact trivial|refine ent1 ?_)) NoP.nil (fun _ _=>trivial) (fun W9 ms9 α hL9 hI=>⟨[.agg (jvS (rootJ []) ⟨some ((α 5).add (0+0)),2,c4,some ((α 6).add (0+0)),2,d4⟩)],?_,(fn_print (d:=4) (by decide) (hT.later (hL'.trans hL9)) ?_ hn4 hp4).mono (Res':=fun y hs=>y=.tup [.c (.str (U8 (put 4 (rootJ [])))),.c (.int .i64 0)]∧hs.drop 1=[]) (fun x hs hr=>⟨hr.1,by rw [hr.2]; rfl⟩)⟩) (fun x hs hr=>by rw [hr.2]; exact NoP.nil) ?_
   ·(repeat first|exact trivial|refine ent1 ?_)
   ·have hlst:TAt W9 ms9 3 (lstJ []) jc0:=TAt.leaf (v:=lstJ []) rfl rfl 3
    have hroot:RowJ W9 ms9 3 (flat (jvS (tText v03B) jc0)++flat (jvS (lstJ []) jc0)) [tText v03B,lstJ []]:=(RowJ.nil.snoc (v:=tText v03B) (x:=jc0) (TAt.leaf rfl rfl 3)).snoc hlst
    have hfn:=strs_frz (l:=[verB,evsB].map U8) (F:=fun j=>memB j [5,6]) (fun j hj=>mpJ_raw (nmL_raw _ _ (nthJ_mem (l:=nmJ [verB,evsB]) hj))) (fun hf=>(hI 6 rfl hf).1) (n:=2) rfl hd4 (by decide)
    have hrawF:∀ y∈flat (jvS (tText v03B) jc0)++flat (jvS (lstJ []) jc0),y.raw=y:=fun y hy=>(List.mem_append.1 hy).elim (jv_raw _ _ y) (jv_raw _ _ y)
    exact ⟨hroot.frz2 (F:=fun j=>memB j [5,6]) (fun j hj=>by simp only [mpJ_raw (hrawF _ (nthJ_mem hj)),rzJ_raw (hrawF _ (nthJ_mem hj))]) (fun hf=>⟨(hI 5 rfl hf).1,fun hm=>(hI 5 rfl hf).2 hm rfl⟩) marks_off (n:=2) rfl hc4 (by decide),hfn⟩
   ·rintro x hs ⟨rfl,hdrop⟩
    rw [hdrop]
    (repeat show _∧_;first|refine yr ?_|refine yt ?_|refine yf ?_|refine yo ?_)
    exact FinW.of ⟨.tup [.c (.str (U8 (put 4 (rootJ [])))),.c (.int .i64 0)],_,⟨[0],⟨rfl,rfl,rfl⟩,by (repeat first|exact trivial|refine ent1 ?_)⟩,W',ms',hL',rfl,by rw [if_pos hP]⟩
  have e1:decide (((0:Nat):Int)<(n:Int))=true:=decide_eq_true (by omega)
  obtain ⟨A,rfl⟩:∃ A,a=some A:=by
   cases a with
   | none=>exact absurd (h.nil rfl) (by omega)
   | some A=>exact ⟨A,rfl⟩
  have hjl:0<es.length:=by omega
  obtain ⟨x,him,hxe⟩:=(h.later hL').elt A rfl 0 (es[0]'hjl) (List.getElem?_eq_getElem hjl)
  have hlast:decide (((0:Nat):Int)+1=(n:Int))=(es.drop (0+1)).isEmpty:=by
   by_cases hz:0+1=n
   ·rw [List.drop_eq_nil_of_le (by omega)]; exact decide_eq_true (by omega)
   ·rw [List.drop_eq_getElem_cons (show 0+1<es.length by omega)]; exact decide_eq_false (by omega)
  have htk:(es.take (0+1)).map evJ=(es.take 0).map evJ++[evJ (es[0]'hjl)]:=by rw [List.take_add_one,List.getElem?_eq_getElem hjl,Option.toList_some,List.map_append]; rfl
  rw [List.drop_eq_getElem_cons hjl,prtF,← hlast] at hPj
  generalize (es[0]'hjl)=e at him hxe hPj htk
  (repeat show _∧_;first|refine yr ?_|refine yt ?_|refine yf ?_|refine ya e1 ?_|refine yb e1 ?_|refine yo ?_)
  refine ⟨evS e x,⟨.past (i:=0) rfl (by exact him),rfl⟩,?_⟩
  (repeat show _∧_;first|refine yr ?_|refine yt ?_|refine yf ?_|refine yo ?_)
  refine call_past (fn_qvalue hxe) 0 [] rfl rfl (by (repeat first|exact trivial|refine ent1 ?_)) (by (repeat first|exact trivial|refine ent1 ?_)) (fun _ _=>trivial) (fun x hs hr=>?_) ?_
  ·rcases hr with ⟨_,_,rfl⟩|⟨_,xj,W5,ms5,hL5,_,_,rfl⟩
   ·exact ⟨W',ms',rfl,Later.refl _ _⟩
   ·exact ⟨W5,ms5,rfl,hL5⟩
  rintro y hs (⟨hc0,rfl,rfl⟩|⟨hc0,xj,W5,ms5,hL5,hxj,rfl,rfl⟩)
  ·have f0:decide (checkM e=0)=false:=decide_eq_false hc0
   have f1:decide (checkM e≠0)=true:=decide_eq_true hc0
   rw [if_pos hc0] at hPj
   (repeat show _∧_;first|refine yr ?_|refine yt ?_|refine yf ?_|refine ya f0 ?_|refine yb f0 ?_|refine ya f1 ?_|refine yb f1 ?_|refine yo ?_)
   exact FinW.of ⟨.tup [.c (.str []),.c (.int .i64 (checkM e))],_,⟨[0],⟨rfl,rfl,rfl⟩,by (repeat first|exact trivial|refine ent1 ?_)⟩,W',ms',hL',rfl,by rw [hPj,if_neg hc0]⟩
  rw [if_neg (not_not_intro hc0)] at hPj
  (repeat show _∧_;first|refine yr ?_|refine yt ?_|refine yf ?_|refine yo ?_)
  refine call_same (fn_qfoll (W:=W5) (ms:=ms5) (x:=x) (e:=e) 0#64 (decide (((0:Nat):Int)+1=(n:Int)))) [0] rfl (by (repeat first|exact trivial|refine ent1 ?_)) (by (repeat first|exact trivial|refine ent1 ?_)) (fun _ _=>trivial) ?_
  rintro y hs ⟨rfl,rfl⟩
  by_cases hf:follM e 0#64 (decide (((0:Nat):Int)+1=(n:Int)))=0
  rotate_left
  ·have f1:decide (follM e 0#64 (decide (((0:Nat):Int)+1=(n:Int)))≠0)=true:=decide_eq_true hf
   rw [if_pos hf] at hPj
   (repeat show _∧_;first|refine yr ?_|refine yt ?_|refine yf ?_|refine ya f1 ?_|refine yb f1 ?_|refine yo ?_)
   exact FinW.of ⟨.tup [.c (.str []),.c (.int .i64 (follM e 0#64 (decide (((0:Nat):Int)+1=(n:Int)))))],_,⟨[0],⟨rfl,rfl,rfl⟩,by (repeat first|exact trivial|refine ent1 ?_)⟩,W5,ms5,hL'.trans hL5,rfl,by rw [hPj,if_neg hf]⟩
  have f1:decide (follM e 0#64 (decide (((0:Nat):Int)+1=(n:Int)))≠0)=false:=decide_eq_false (not_not_intro hf)
  rw [if_neg (not_not_intro hf)] at hPj
  (repeat show _∧_;first|refine yr ?_|refine yt ?_|refine yf ?_|refine ya f1 ?_|refine yb f1 ?_|refine yo ?_)
  refine And.intro (show 0+5≤5 by decide) ?_
  (repeat show _∧_;first|refine yr ?_|refine yt ?_|refine yf ?_|refine yo ?_)
  intro c2 hc2
  (repeat show _∧_;first|refine yr ?_|refine yt ?_|refine yf ?_|refine yo ?_)
  refine ⟨(1,e.t,some (flat (jvS (evJ e) xj),c2),W5,ms5),[0,1,5],⟨⟨rfl,rfl,rfl⟩,?_⟩,⟨Nat.zero_lt_one,hj,hc2,hL'.trans hL5,hPj,by rw [htk]; exact RowJ.nil.snoc hxj⟩,by dsimp only; omega⟩
  dsimp only
  (repeat first|exact trivial|refine ent1 ?_)
  exact ⟨fun j hj=>eqJ_cs (jv_raw _ _) (newJ_cs (m:=1) (sz:=4) rfl fun j hj=>updJ_new hj) j,by (repeat first|exact trivial|refine ent1 ?_)⟩
 ·obtain ⟨hj0,hjn,hjc,hL',hPj,hrow⟩:=hy
  dsimp only
  by_cases hj:j<n
  rotate_left
  ·have e1:decide (((j:Nat):Int)<(n:Int))=false:=decide_eq_false (by omega)
   have hP:prtM es=0:=by rw [hPj,List.drop_eq_nil_of_le (by omega)]; rfl
   obtain rfl:j=n:=by omega
   rw [List.take_of_length_le (by omega)] at hrow
   subst hl
   (repeat show _∧_;first|refine yr ?_|refine yt ?_|refine yf ?_|refine ya e1 ?_|refine yb e1 ?_|refine yo ?_)
   refine call_same (fn_qtext v03B) [] rfl (by exact And.intro rfl trivial) trivial (fun _ _=>trivial) ?_
   rintro y hs ⟨rfl,rfl⟩
   (repeat show _∧_;first|refine yr ?_|refine yt ?_|refine yf ?_|refine yo ?_)
   refine call_same (fn_qadd0 (tText v03B) jc0 verB) [3] rfl (by (repeat first|exact trivial|refine ent1 ?_)) (by (repeat first|exact trivial|refine ent1 ?_)) (fun _ _=>trivial) ?_
   rintro y hs ⟨c3,d3,hc3,hd3,rfl,rfl⟩
   (repeat show _∧_;first|refine yr ?_|refine yt ?_|refine yf ?_|refine yo ?_)
   refine call_same (fn_qadd3 (flat (jvS (tText v03B) jc0)) [verB] 1 c3 d3 (jv_raw _ _) rfl rfl hc3 hd3 (by decide) es.length cc (nthC cs) (scale cc (4+1)) (fun q j=>eqJ_cs hrow.raw (fun _ _=>rfl) j) evsB) [3,4,5,2] rfl (by (repeat first|exact trivial|refine ent1 ?_)) ?_ (fun _ _=>trivial) ?_
   ·(repeat first|exact trivial|refine ent1 ?_)
    refine ⟨fun j hj=>eqJ_csM (jv_raw _ _) j,?_⟩
    (repeat first|exact trivial|refine ent1 ?_)
    refine ⟨fun j hj=>eqJ_csM (nmL_raw _) j,?_⟩
    (repeat first|exact trivial|refine ent1 ?_)
    exact ⟨fun j hj=>eqJ_cs hrow.raw (fun _ _=>rfl) j,by (repeat first|exact trivial|refine ent1 ?_)⟩
   rintro y hs ⟨c4,d4,hc4,hd4,rfl,rfl⟩
   (repeat show _∧_;first|refine yr ?_|refine yt ?_|refine yf ?_|refine yo ?_)
   obtain ⟨hn4,hp4⟩:=hp hP
   refine call_lendU [6,7,2] 0 [] rfl rfl (by (repeat first|exact trivial|refine ent1 ?_)) NoP.nil (fun _ _=>trivial) (fun W9 ms9 α hL9 hI=>⟨[.agg (jvS (rootJ es) ⟨some ((α 6).add (0+0)),2,c4,some ((α 7).add (0+0)),2,d4⟩)],?_,(fn_print (d:=4) (by decide) (hT.later (hL'.trans hL9)) ?_ hn4 hp4).mono (Res':=fun y hs=>y=.tup [.c (.str (U8 (put 4 (rootJ es)))),.c (.int .i64 0)]∧hs.drop 1=[]) (fun x hs hr=>⟨hr.1,by rw [hr.2]; rfl⟩)⟩) (fun x hs hr=>by rw [hr.2]; exact NoP.nil) ?_
   ·(repeat first|exact trivial|refine ent1 ?_)
   ·have hlst:TAt W9 ms9 3 (lstJ es) ⟨some ((α 2).add (0+0)),es.length,cc,none,0,0⟩:=⟨(hrow.later hL9).frz2 (F:=fun j=>memB j [6,7,2]) (fun j hj=>by simp only [mpJ_raw (hrow.raw _ (nthJ_mem hj)),rzJ_raw (hrow.raw _ (nthJ_mem hj))]) (fun hf=>⟨(hI 2 rfl hf).1,fun hm=>(hI 2 rfl hf).2 hm rfl⟩) marks_off (n:=es.length) (by simp) hjc (by omega),(TAt.leaf (W:=W9) (ms:=ms9) (v:=lstJ []) rfl rfl 0).ns⟩
    have hroot:RowJ W9 ms9 3 (flat (jvS (tText v03B) jc0)++flat (jvS (lstJ es) ⟨some ((α 2).add (0+0)),es.length,cc,none,0,0⟩)) [tText v03B,lstJ es]:=(RowJ.nil.snoc (v:=tText v03B) (x:=jc0) (TAt.leaf rfl rfl 3)).snoc hlst
    have hfn:=strs_frz (l:=[verB,evsB].map U8) (F:=fun j=>memB j [6,7,2]) (fun j hj=>mpJ_raw (nmL_raw _ _ (nthJ_mem (l:=nmJ [verB,evsB]) hj))) (fun hf=>(hI 7 rfl hf).1) (n:=2) rfl hd4 (by decide)
    refine ⟨hroot.frz2 (F:=fun j=>memB j [6,7,2]) (fun j hj=>rz_app (g:=bk 6 [3,4,5,2]) (D:=[.w8 5#8,.w64 0#64,.str [],.sl 3 0 0 es.length cc,.slc none 0 0]) (E:=flat (jvS (lstJ es) ⟨some ((α 2).add (0+0)),es.length,cc,none,0,0⟩)) (jv_raw (tText v03B) jc0) rfl (fun i hi=>?_) j hj) (fun hf=>⟨(hI 6 rfl hf).1,fun hm=>(hI 6 rfl hf).2 hm rfl⟩) marks_off (n:=2) rfl hc4 (by decide),hfn⟩
    match i,hi with
    | 0,_=>rfl
    | 1,_=>rfl
    | 2,_=>rfl
    | 3,_=>rfl
    | 4,_=>rfl
   ·rintro x hs ⟨rfl,hdrop⟩
    rw [hdrop]
    (repeat show _∧_;first|refine yr ?_|refine yt ?_|refine yf ?_|refine yo ?_)
    exact FinW.of ⟨.tup [.c (.str (U8 (put 4 (rootJ es)))),.c (.int .i64 0)],_,⟨[0],⟨rfl,rfl,rfl⟩,by (repeat first|exact trivial|refine ent1 ?_)⟩,W',ms',hL',rfl,by rw [if_pos hP]⟩
  have e1:decide (((j:Nat):Int)<(n:Int))=true:=decide_eq_true (by omega)
  obtain ⟨A,rfl⟩:∃ A,a=some A:=by
   cases a with
   | none=>exact absurd (h.nil rfl) (by omega)
   | some A=>exact ⟨A,rfl⟩
  have hjl:j<es.length:=by omega
  obtain ⟨x,him,hxe⟩:=(h.later hL').elt A rfl j (es[j]'hjl) (List.getElem?_eq_getElem hjl)
  have hlast:decide (((j:Nat):Int)+1=(n:Int))=(es.drop (j+1)).isEmpty:=by
   by_cases hz:j+1=n
   ·rw [List.drop_eq_nil_of_le (by omega)]; exact decide_eq_true (by omega)
   ·rw [List.drop_eq_getElem_cons (show j+1<es.length by omega)]; exact decide_eq_false (by omega)
  have htk:(es.take (j+1)).map evJ=(es.take j).map evJ++[evJ (es[j]'hjl)]:=by rw [List.take_add_one,List.getElem?_eq_getElem hjl,Option.toList_some,List.map_append]; rfl
  rw [List.drop_eq_getElem_cons hjl,prtF,← hlast] at hPj
  generalize (es[j]'hjl)=e at him hxe hPj htk
  (repeat show _∧_;first|refine yr ?_|refine yt ?_|refine yf ?_|refine ya e1 ?_|refine yb e1 ?_|refine yo ?_)
  refine ⟨evS e x,⟨.past (i:=0) rfl (by exact him),rfl⟩,?_⟩
  (repeat show _∧_;first|refine yr ?_|refine yt ?_|refine yf ?_|refine yo ?_)
  refine call_past (fn_qvalue hxe) 0 [] rfl rfl (by (repeat first|exact trivial|refine ent1 ?_)) (by (repeat first|exact trivial|refine ent1 ?_)) (fun _ _=>trivial) (fun x hs hr=>?_) ?_
  ·rcases hr with ⟨_,_,rfl⟩|⟨_,xj,W5,ms5,hL5,_,_,rfl⟩
   ·exact ⟨W',ms',rfl,Later.refl _ _⟩
   ·exact ⟨W5,ms5,rfl,hL5⟩
  rintro y hs (⟨hc0,rfl,rfl⟩|⟨hc0,xj,W5,ms5,hL5,hxj,rfl,rfl⟩)
  ·have f0:decide (checkM e=0)=false:=decide_eq_false hc0
   have f1:decide (checkM e≠0)=true:=decide_eq_true hc0
   rw [if_pos hc0] at hPj
   (repeat show _∧_;first|refine yr ?_|refine yt ?_|refine yf ?_|refine ya f0 ?_|refine yb f0 ?_|refine ya f1 ?_|refine yb f1 ?_|refine yo ?_)
   exact FinW.of ⟨.tup [.c (.str []),.c (.int .i64 (checkM e))],_,⟨[0],⟨rfl,rfl,rfl⟩,by (repeat first|exact trivial|refine ent1 ?_)⟩,W',ms',hL',rfl,by rw [hPj,if_neg hc0]⟩
  rw [if_neg (not_not_intro hc0)] at hPj
  (repeat show _∧_;first|refine yr ?_|refine yt ?_|refine yf ?_|refine yo ?_)
  refine call_same (fn_qfoll (W:=W5) (ms:=ms5) (x:=x) (e:=e) t (decide (((j:Nat):Int)+1=(n:Int)))) [0] rfl (by (repeat first|exact trivial|refine ent1 ?_)) (by (repeat first|exact trivial|refine ent1 ?_)) (fun _ _=>trivial) ?_
  rintro y hs ⟨rfl,rfl⟩
  by_cases hf:follM e t (decide (((j:Nat):Int)+1=(n:Int)))=0
  rotate_left
  ·have f1:decide (follM e t (decide (((j:Nat):Int)+1=(n:Int)))≠0)=true:=decide_eq_true hf
   rw [if_pos hf] at hPj
   (repeat show _∧_;first|refine yr ?_|refine yt ?_|refine yf ?_|refine ya f1 ?_|refine yb f1 ?_|refine yo ?_)
   exact FinW.of ⟨.tup [.c (.str []),.c (.int .i64 (follM e t (decide (((j:Nat):Int)+1=(n:Int)))))],_,⟨[0],⟨rfl,rfl,rfl⟩,by (repeat first|exact trivial|refine ent1 ?_)⟩,W5,ms5,hL'.trans hL5,rfl,by rw [hPj,if_neg hf]⟩
  have f1:decide (follM e t (decide (((j:Nat):Int)+1=(n:Int)))≠0)=false:=decide_eq_false (not_not_intro hf)
  rw [if_neg (not_not_intro hf)] at hPj
  (repeat show _∧_;first|refine yr ?_|refine yt ?_|refine yf ?_|refine ya f1 ?_|refine yb f1 ?_|refine yo ?_)
  refine And.intro (show 0+5≤5 by decide) ?_
  refine And.intro (show 0+scale 1 (4+1)≤5 by decide) ?_
  refine And.intro ⟨hjc,by rw [sc5]; omega,show (j+1)*80≤140737488355328 by omega⟩ ?_
  intro c2 hc2
  (repeat show _∧_;first|refine yr ?_|refine yt ?_|refine yf ?_|refine yo ?_)
  have hrl:cs.length=j*5:=by have:=hrow.len; rw [List.length_map,List.length_take] at this; omega
  have hrw:RowJ W5 ms5 2 (cs++flat (jvS (evJ e) xj)) ((es.take (j+1)).map evJ):=by rw [htk]; exact (hrow.later hL5).snoc hxj
  refine ⟨(j+1,e.t,some (cs++flat (jvS (evJ e) xj),c2),W5,ms5),[0,1,6],⟨⟨rfl,rfl,rfl⟩,?_⟩,⟨by omega,hj,hc2,hL'.trans hL5,hPj,hrw⟩,by dsimp only; omega⟩
  dsimp only
  (repeat first|exact trivial|refine ent1 ?_)
  exact ⟨fun j hj=>eqJ_cs hrw.raw (appJ_cs (m:=1) (sz:=4) (by rw [hrl]) (fun _ _=>rfl) rfl fun j hj=>updJ_new hj) j,by (repeat first|exact trivial|refine ent1 ?_)⟩
end Sx
end
section
namespace Qj
open Sha Vi Js Ev
end Qj
namespace Sx
open Go.RowKit Sha Vi Js Ev Qj

end Sx
end
section
namespace Qj
open Sha Vi Js Ev
theorem enc_qr (r:Nat):(enc r).length≤(qr r).length:=by
 by_cases h:r<128
 ·have h1:(enc r).length=1:=by unfold enc; rw [if_pos h]; rfl
  have:=qr_pos r
  omega
 ·unfold qr
  rw [if_neg (by omega),if_neg (by omega),if_neg (by omega),if_neg (by omega),if_neg (by omega)]
  exact Nat.le_refl _
theorem flat_qr:∀ l:List Nat,(l.flatMap enc).length≤(l.flatMap qr).length
 | []=>Nat.le_refl _
 | r::l=>by
  have h1:=enc_qr r
  have h2:=flat_qr l
  rw [List.flatMap_cons,List.flatMap_cons,List.length_append,List.length_append]
  omega
theorem quote_len {s:Bs} (h:Utf s):s.length≤(quote s).length:=by
 obtain ⟨rs,h1,rfl⟩:=h
 rw [quote_of h1,List.length_cons,List.length_append]
 have:=flat_qr rs
 omega
theorem putL_mem {pv:JT→Bs}:∀ {l:List JT} {x:JT},x∈l→(pv x).length≤(putL pv l).length
 | [],x,h=>by cases h
 | [y],x,h=>by
  rw [List.mem_singleton] at h
  subst h
  exact Nat.le_refl _
 | y::z::l,x,h=>by
  rw [putL_cons _ _ _ (by simp),List.length_append,List.length_cons]
  rcases List.mem_cons.1 h with rfl|h
  ·omega
  ·have:=putL_mem (pv:=pv) h
   omega
theorem putO_mem {pv:JT→Bs}:∀ {ns:List Bs} {l:List JT} {x:JT},ns.length=l.length→x∈l→(pv x).length≤(putO pv ns l).length
 | _,[],x,_,h=>by cases h
 | [],_::_,x,hl,_=>by simp at hl
 | s::ns,[y],x,_,h=>by
  rw [List.mem_singleton] at h
  subst h
  show (pv x).length≤(quote s++58#8::pv x).length
  rw [List.length_append,List.length_cons]
  omega
 | s::ns,y::z::l,x,hl,h=>by
  rw [putO_cons _ _ _ _ _ (by simp),List.length_append,List.length_cons,List.length_append,List.length_cons]
  rcases List.mem_cons.1 h with rfl|h
  ·omega
  ·have:=putO_mem (pv:=pv) (ns:=ns) (by simpa using hl) h
   omega
theorem leaf_s {d:Nat} {v:JT} (h:leaf v):v.s.length≤(put d v).length:=by
 rw [put_leaf h]
 obtain ⟨_,_,_,hs,_,hu⟩:=h
 rcases hs with h4|h0
 ·unfold put1
  rw [h4,if_neg (by decide),if_neg (by decide),if_neg (by decide),if_neg (by decide),if_pos rfl]
  exact quote_len hu
 ·rw [h0]; exact Nat.zero_le _
theorem norm_s:∀ {d:Nat} {v:JT},norm d v→v.s.length≤(put d v).length
 | 0,_,h=>leaf_s h
 | d+1,v,h=>by
  rcases h with h|⟨_,hs,_⟩
  ·exact leaf_s h
  ·rw [hs]; exact Nat.zero_le _
theorem norm_kid:∀ {d:Nat} {v x:JT},norm d v→x∈v.l→∃ e,norm e x∧(put e x).length≤(put d v).length
 | 0,v,x,h,hx=>by rw [h.1] at hx; cases hx
 | d+1,v,x,h,hx=>by
  rcases h with h|⟨_,_,hl,hk⟩
  ·rw [h.1] at hx; cases hx
  ·refine ⟨d,hl x hx,?_⟩
   show _≤(put1 (putL (put d)) (putO (put d)) v).length
   unfold put1
   rcases hk with ⟨hk,_⟩|⟨hk,hn,_⟩
   ·rw [hk,if_neg (by decide),if_neg (by decide),if_neg (by decide),if_neg (by decide),if_neg (by decide),if_pos rfl,List.length_cons,List.length_append]
    have:=putL_mem (pv:=put d) hx
    omega
   ·rw [hk,if_neg (by decide),if_neg (by decide),if_neg (by decide),if_neg (by decide),if_neg (by decide),if_neg (by decide),List.length_cons,List.length_append]
    have:=putO_mem (pv:=put d) hn hx
    omega
end Qj
namespace Sx
open Go.RowKit Sha Vi Js Ev Qj
theorem shrt_of {N:Nat}:∀ (k:Nat) {d:Nat} {v:JT},norm d v→(put d v).length≤N→Shrt N k v
 | 0,d,v,h,hl=>Nat.le_trans (norm_s h) hl
 | k+1,d,v,h,hl=>⟨Nat.le_trans (norm_s h) hl,fun x hx=>let ⟨e,h1,h2⟩:=norm_kid h hx; shrt_of k h1 (Nat.le_trans h2 hl)⟩
theorem memJ_mem {v y:JT} {s:Bs} {k:BitVec 8} (h:memJ v s k=some y):y∈v.l:=by
 unfold memJ at h
 split at h
 ·cases h
 ·rename_i i _
  split at h
  ·cases h
  ·rename_i x hx
   split at h
   ·injection h with h
    subst h
    exact List.mem_of_getElem? hx
   ·cases h
end Sx
end
section
namespace Qj
open Sha Js Ev
end Qj
namespace Sx
open Go.RowKit Sha Vi Js Ev Qj
theorem fn_qprint' {W:World} {ms:List Nat} {a:Option Addr} {n c:Nat} {es:List Ev} (hT:Tabs W ms) (h:EvsAt W ms a n c es):FnR Tryd.prog tds 24 1 [[.past W ms]] [.c (.slc a n c)] (fun _=>True) (PrtA W ms es) :=
 fn_qprint hT h fun hp=>⟨norm_root hp,by have h1:=root_len hp; have h2:=(prtM_ok hp).1; omega⟩
end Sx
end
section
namespace Sx
open Go.RowKit Sha Vi Js Ev Qj
theorem prt_nil:prtM []=0:=rfl
set_option maxRecDepth 20000 in
set_option maxHeartbeats 8000000 in
theorem fn_qawake {W:World} {ms:List Nat} (hT:Tabs W ms):FnR Tryd.prog tds 9 1 [[.past W ms]] [] (fun _=>True) (fun y hs=>∃ W' ms',Later W ms W' ms'∧y=.a (.c (.bool true))∧hs=[[.past W' ms']]):=by
 refine fn_of_bodyW tds_ok follows_ Tryd.func9 rfl (t:=anys (Tryd.f9.ntmps)) rfl (fun w r0 hr0 _=>?_)
 obtain ⟨x0,rfl⟩:=len1' hr0
 (repeat show _∧_;first|refine yr ?_|refine yt ?_|refine yf ?_|refine yo ?_)
 refine call_past (fn_qprint' (W:=W) (ms:=ms) (es:=[]) hT EvsAt.nul) 0 [] rfl rfl (by (repeat first|exact trivial|refine ent1 ?_)) (by (repeat first|exact trivial|refine ent1 ?_)) (fun _ _=>trivial) (fun x hs hr=>?_) ?_
 ·obtain ⟨W5,ms5,hL5,rfl,_⟩:=hr
  exact ⟨W5,ms5,rfl,hL5⟩
 rintro y hs ⟨W5,ms5,hL5,rfl,rfl⟩
 rw [if_pos prt_nil]
 have hb:U8 (put 4 (rootJ []))=[123,34,113,108,111,103,95,118,101,114,115,105,111,110,34,58,34,48,46,51,34,44,34,101,118,101,110,116,115,34,58,91,93,125]:=by decide +kernel
 rw [hb]
 (repeat show _∧_;first|refine yr ?_|refine yt ?_|refine yf ?_|refine yo ?_)
 (repeat show _∧_;first|refine yr ?_|refine yt ?_|refine yf ?_|refine yo ?_)
 exact FinW.of ⟨.a (.c (.bool true)),_,⟨[0],⟨rfl,rfl,rfl⟩,by (repeat first|exact trivial|refine ent1 ?_)⟩,W5,ms5,hL5,rfl,rfl⟩
end Sx
end
section
namespace Ev
open Vi Sha

end Ev
end
section
namespace Qj
open Sha Js Ev Vi
end Qj
end
section
namespace Sx
open Go.RowKit Sha Vi Js Ev Qj

theorem light2 {es:List Ev} (hL:lightE es=true):(∀ e∈es,e.N.length≤30∧e.D.length≤100)∧es.length≤60:=by
 unfold lightE at hL
 rw [Bool.and_eq_true] at hL
 exact ⟨of_decide_eq_true hL.1,of_decide_eq_true hL.2⟩
end Sx
end
end Go.Proofs.YtnehmcpkeamghaaDoor
