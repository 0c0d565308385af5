/-
  Texts of this claim, part 5: EoB, QjA, QjL, QjM, QjN, EoC, EoD, VwA, VwB, EoE, EoF, EoG, EoH, EoI, QjQ, QjR, QjS, JsT, Sxzf, JsA, JsE, Shf. No condition of its own.
-/
import Derived.Shelf.Small.Strs
import Derived.Shelf.Strconv.Itoa1
import Derived.Shelf.Unicode.DecodeAny
import Derived.Shelf.Unicode.ValidAny
import Derived.Test.YtnehmcpkeamghaaDoorRows
import Derived.Test.YtnehmcpkeamghaaDoorG4
namespace Go.Proofs.YtnehmcpkeamghaaDoor
set_option linter.unusedVariables false
section
namespace Ev
structure Ev where
 k:BitVec 8
 t:BitVec 64
 N:List (BitVec 64)
 D:Sha.Bs
def checkM (e:Ev):Int :=
 if evOk e.k=false then 5 else if 1125899906842624#64<e.t then 21 else if e.N.length≠(evNames e.k).length then 6
 else if 20<e.D.length then 4 else if 0<e.D.length∧evData e.k=false then 4 else if ∃ n∈e.N,4611686018427387903#64<n then 2 else 0
structure EvC where
 aN:Option Addr
 nN:Nat
 cN:Nat
 aD:Option Addr
 nD:Nat
 cD:Nat
end Ev
namespace Sx
open Go.RowKit Sha Vi Ev

abbrev evS (e:Ev) (x:EvC):List Seg:=[.one (.w8 e.k),.one (.w64 e.t),.one (.slc x.aN x.nN x.cN),.one (.slc x.aD x.nD x.cD)]
structure EvAt (W:World) (ms:List Nat) (x:EvC) (e:Ev):Prop where
 N:NsAt W ms x.aN x.nN x.cN e.N
 D:BsAt W ms x.aD x.nD x.cD e.D
theorem EvAt.later {W W':World} {ms ms':List Nat} {x:EvC} {e:Ev} (h:EvAt W ms x e) (k:Later W ms W' ms'):EvAt W' ms' x e:=⟨h.N.later k,h.D.later k⟩
theorem EvAt.nN {W:World} {ms:List Nat} {x:EvC} {e:Ev} (h:EvAt W ms x e):x.nN=e.N.length:=h.N.n1.symm
theorem EvAt.nD {W:World} {ms:List Nat} {x:EvC} {e:Ev} (h:EvAt W ms x e):x.nD=e.D.length:=h.D.n1.symm
set_option maxRecDepth 20000 in
set_option maxHeartbeats 8000000 in
theorem fn_echeck {W:World} {ms:List Nat} {x:EvC} {e:Ev} (h:EvAt W ms x e):FnR Tryd.prog tds 23 1 [[.past W ms]] [.agg (evS e x)] (fun _=>True)
  (fun y hs=>y=.a (.c (.int .i64 (checkM e)))∧hs=[[.past W ms]]):=by
 have hN:=h.N
 have hn1:=h.nN
 have hn2:=h.nD
 have hNc:=h.N.le
 have hNm:=h.N.cap
 have hDc:=h.D.le
 have hDm:=h.D.cap
 obtain ⟨aN,nN,cN,aD,nD,cD⟩:=x
 dsimp only at hN hn1 hn2 hNc hNm hDc hDm
 subst hn1; subst hn2
 refine fn_of_body tds_ok follows_ Tryd.func23 rfl (t:=.a (.agg (evS e ⟨aN,e.N.length,cN,aD,e.D.length,cD⟩))::anys (Tryd.f23.ntmps-1)) rfl (fun w r0 hr _=>?_)
 obtain ⟨x0,rfl⟩:=List.length_eq_one_iff.1 hr
 (repeat show _∧_;first|refine yr ?_|refine yt ?_|refine yf ?_|refine yo ?_)
 refine call_same (fn_eof e.k) [] rfl (by (repeat first|exact trivial|refine ent1 ?_)) trivial (fun _ _=>trivial) ?_
 rintro y hs' ⟨rfl,rfl⟩
 unfold checkM
 cases h1:evOk e.k
 ·(repeat show _∧_;first|refine yr ?_|refine yt ?_|refine yf ?_|refine yo ?_)
  exact ⟨.a (.c (.int .i64 5)),[[.past W ms]],⟨[0],⟨rfl,rfl,rfl⟩,by (repeat first|exact trivial|refine ent1 ?_)⟩,rfl,rfl⟩
 rw [if_neg (by decide)]
 (repeat show _∧_;first|refine yr ?_|refine yt ?_|refine yf ?_|refine yo ?_)
 by_cases h2:1125899906842624#64<e.t
 ·have e2:decide (1125899906842624#64<e.t)=true:=decide_eq_true h2
  rw [if_pos h2]
  (repeat show _∧_;first|refine yr ?_|refine yt ?_|refine yf ?_|refine ya e2 ?_|refine yb e2 ?_|refine yo ?_)
  exact ⟨.a (.c (.int .i64 21)),[[.past W ms]],⟨[0],⟨rfl,rfl,rfl⟩,by (repeat first|exact trivial|refine ent1 ?_)⟩,rfl,rfl⟩
 have e2:decide (1125899906842624#64<e.t)=false:=decide_eq_false h2
 rw [if_neg h2]
 (repeat show _∧_;first|refine yr ?_|refine yt ?_|refine yf ?_|refine ya e2 ?_|refine yb e2 ?_|refine yo ?_)
 by_cases h3:e.N.length≠(evNames e.k).length
 ·have e3:decide ((e.N.length:Int)≠((evNames e.k).length:Int))=true:=decide_eq_true (by omega)
  rw [if_pos h3]
  (repeat show _∧_;first|refine yr ?_|refine yt ?_|refine yf ?_|refine ya e3 ?_|refine yb e3 ?_|refine yo ?_)
  exact ⟨.a (.c (.int .i64 6)),[[.past W ms]],⟨[0],⟨rfl,rfl,rfl⟩,by (repeat first|exact trivial|refine ent1 ?_)⟩,rfl,rfl⟩
 have e3:decide ((e.N.length:Int)≠((evNames e.k).length:Int))=false:=decide_eq_false (by omega)
 rw [if_neg h3]
 (repeat show _∧_;first|refine yr ?_|refine yt ?_|refine yf ?_|refine ya e3 ?_|refine yb e3 ?_|refine yo ?_)
 by_cases h4:20<e.D.length
 ·have e4:decide ((20:Int)<(e.D.length:Int))=true:=decide_eq_true (by omega)
  rw [if_pos h4]
  (repeat show _∧_;first|refine yr ?_|refine yt ?_|refine yf ?_|refine ya e4 ?_|refine yb e4 ?_|refine yo ?_)
  exact ⟨.a (.c (.int .i64 4)),[[.past W ms]],⟨[0],⟨rfl,rfl,rfl⟩,by (repeat first|exact trivial|refine ent1 ?_)⟩,rfl,rfl⟩
 have e4:decide ((20:Int)<(e.D.length:Int))=false:=decide_eq_false (by omega)
 rw [if_neg h4]
 (repeat show _∧_;first|refine yr ?_|refine yt ?_|refine yf ?_|refine ya e4 ?_|refine yb e4 ?_|refine yo ?_)
 by_cases h5:0<e.D.length
 ·have e5:decide ((0:Int)<(e.D.length:Int))=true:=decide_eq_true (by omega)
  cases h6:evData e.k
  ·rw [if_pos ⟨h5,rfl⟩]
   (repeat show _∧_;first|refine yr ?_|refine yt ?_|refine yf ?_|refine ya e5 ?_|refine yb e5 ?_|refine yo ?_)
   exact ⟨.a (.c (.int .i64 4)),[[.past W ms]],⟨[0],⟨rfl,rfl,rfl⟩,by (repeat first|exact trivial|refine ent1 ?_)⟩,rfl,rfl⟩
  ·rw [if_neg (fun hc=>Bool.noConfusion hc.2)]
   (repeat show _∧_;first|refine yr ?_|refine yt ?_|refine yf ?_|refine ya e5 ?_|refine yb e5 ?_|refine yo ?_)
   refine .inl ⟨Nat,fun i=>⟨[.any,.any,.any,.any,.any,.any,.any,.any,.any,.any,.any,.any,.any,.any,.any,.any,.any,.any,.any,.any,.any,.any,.any,.any,.any,.any,.any,.any,.any,.any,.any,.any,.any,.any,.any,.any,.any,.any,.any,.any,.any,.any,.any,.a (.c (.slc aN e.N.length cN)),.a (.c (.int .i64 (↑e.N.length))),.a (.c (.int .i64 (↑i))),.any,.any,.any,.any,.any,.any],[[.past W ms]]⟩,fun i=>i≤e.N.length∧∀ j,j<i→∀ n,e.N[j]?=some n→¬ 4611686018427387903#64<n,fun i=>e.N.length-i,⟨0,[0],⟨⟨rfl,rfl,rfl⟩,by (repeat first|exact trivial|refine ent1 ?_)⟩,Nat.zero_le _,fun j hj=>absurd hj (Nat.not_lt_zero _)⟩,fun i ⟨hi,hall⟩=>⟨fun hlt=>?_,fun hge=>?_⟩⟩
   ·have hlt:i<e.N.length:=by have:=of_decide_eq_true hlt; omega
    obtain ⟨n,hn⟩:∃ n,e.N[i]?=some n:=⟨_,List.getElem?_eq_getElem hlt⟩
    cases aN with
    | none=>have:=hN.nil_.1; omega
    | some A =>
    (repeat show _∧_;first|refine yr ?_|refine yt ?_|refine yf ?_|refine yo ?_)
    refine loadR (i:=0) rfl (hN.im A rfl (by omega)) (j:=i*1) (map_get? (by rw [Nat.mul_one]; exact hn)) ?_
    (repeat show _∧_;first|refine yr ?_|refine yt ?_|refine yf ?_|refine yo ?_)
    by_cases hb:4611686018427387903#64<n
    ·have eb:decide (4611686018427387903#64<n)=true:=decide_eq_true hb
     rw [if_pos ⟨n,List.mem_of_getElem? hn,hb⟩]
     (repeat show _∧_;first|refine yr ?_|refine yt ?_|refine yf ?_|refine ya eb ?_|refine yb eb ?_|refine yo ?_)
     exact ⟨.a (.c (.int .i64 2)),[[.past W ms]],⟨[0],⟨rfl,rfl,rfl⟩,by (repeat first|exact trivial|refine ent1 ?_)⟩,rfl,rfl⟩
    ·have eb:decide (4611686018427387903#64<n)=false:=decide_eq_false hb
     (repeat show _∧_;first|refine yr ?_|refine yt ?_|refine yf ?_|refine ya eb ?_|refine yb eb ?_|refine yo ?_)
     refine ⟨i+1,[0],⟨⟨rfl,rfl,rfl⟩,by (repeat first|exact trivial|refine ent1 ?_)⟩,⟨by omega,fun j hj m hm=>?_⟩,by dsimp only; omega⟩
     by_cases hji:j=i
     ·subst hji; rw [hn] at hm; injection hm with hm; subst hm; exact hb
     ·exact hall j (by omega) m hm
   ·have hge:i=e.N.length:=by have:=of_decide_eq_false hge; omega
    rw [if_neg (by
     rintro ⟨n,hn,hb⟩
     obtain ⟨j,hj,rfl⟩:=List.mem_iff_getElem.1 hn
     exact hall j (by omega) _ (List.getElem?_eq_getElem hj) hb)]
    (repeat show _∧_;first|refine yr ?_|refine yt ?_|refine yf ?_|refine yo ?_)
    exact ⟨.a (.c (.int .i64 0)),[[.past W ms]],⟨[0],⟨rfl,rfl,rfl⟩,by (repeat first|exact trivial|refine ent1 ?_)⟩,rfl,rfl⟩
 ·have e5:decide ((0:Int)<(e.D.length:Int))=false:=decide_eq_false (by omega)
  rw [if_neg (fun hc=>h5 hc.1)]
  (repeat show _∧_;first|refine yr ?_|refine yt ?_|refine yf ?_|refine ya e5 ?_|refine yb e5 ?_|refine yo ?_)
  refine .inl ⟨Nat,fun i=>⟨[.any,.any,.any,.any,.any,.any,.any,.any,.any,.any,.any,.any,.any,.any,.any,.any,.any,.any,.any,.any,.any,.any,.any,.any,.any,.any,.any,.any,.any,.any,.any,.any,.any,.any,.any,.any,.any,.any,.any,.any,.any,.any,.any,.a (.c (.slc aN e.N.length cN)),.a (.c (.int .i64 (↑e.N.length))),.a (.c (.int .i64 (↑i))),.any,.any,.any,.any,.any,.any],[[.past W ms]]⟩,fun i=>i≤e.N.length∧∀ j,j<i→∀ n,e.N[j]?=some n→¬ 4611686018427387903#64<n,fun i=>e.N.length-i,⟨0,[0],⟨⟨rfl,rfl,rfl⟩,by (repeat first|exact trivial|refine ent1 ?_)⟩,Nat.zero_le _,fun j hj=>absurd hj (Nat.not_lt_zero _)⟩,fun i ⟨hi,hall⟩=>⟨fun hlt=>?_,fun hge=>?_⟩⟩
  ·have hlt:i<e.N.length:=by have:=of_decide_eq_true hlt; omega
   obtain ⟨n,hn⟩:∃ n,e.N[i]?=some n:=⟨_,List.getElem?_eq_getElem hlt⟩
   cases aN with
   | none=>have:=hN.nil_.1; omega
   | some A =>
   (repeat show _∧_;first|refine yr ?_|refine yt ?_|refine yf ?_|refine yo ?_)
   refine loadR (i:=0) rfl (hN.im A rfl (by omega)) (j:=i*1) (map_get? (by rw [Nat.mul_one]; exact hn)) ?_
   (repeat show _∧_;first|refine yr ?_|refine yt ?_|refine yf ?_|refine yo ?_)
   by_cases hb:4611686018427387903#64<n
   ·have eb:decide (4611686018427387903#64<n)=true:=decide_eq_true hb
    rw [if_pos ⟨n,List.mem_of_getElem? hn,hb⟩]
    (repeat show _∧_;first|refine yr ?_|refine yt ?_|refine yf ?_|refine ya eb ?_|refine yb eb ?_|refine yo ?_)
    exact ⟨.a (.c (.int .i64 2)),[[.past W ms]],⟨[0],⟨rfl,rfl,rfl⟩,by (repeat first|exact trivial|refine ent1 ?_)⟩,rfl,rfl⟩
   ·have eb:decide (4611686018427387903#64<n)=false:=decide_eq_false hb
    (repeat show _∧_;first|refine yr ?_|refine yt ?_|refine yf ?_|refine ya eb ?_|refine yb eb ?_|refine yo ?_)
    refine ⟨i+1,[0],⟨⟨rfl,rfl,rfl⟩,by (repeat first|exact trivial|refine ent1 ?_)⟩,⟨by omega,fun j hj m hm=>?_⟩,by dsimp only; omega⟩
    by_cases hji:j=i
    ·subst hji; rw [hn] at hm; injection hm with hm; subst hm; exact hb
    ·exact hall j (by omega) m hm
  ·have hge:i=e.N.length:=by have:=of_decide_eq_false hge; omega
   rw [if_neg (by
    rintro ⟨n,hn,hb⟩
    obtain ⟨j,hj,rfl⟩:=List.mem_iff_getElem.1 hn
    exact hall j (by omega) _ (List.getElem?_eq_getElem hj) hb)]
   (repeat show _∧_;first|refine yr ?_|refine yt ?_|refine yf ?_|refine yo ?_)
   exact ⟨.a (.c (.int .i64 0)),[[.past W ms]],⟨[0],⟨rfl,rfl,rfl⟩,by (repeat first|exact trivial|refine ent1 ?_)⟩,rfl,rfl⟩
end Sx
end
section
namespace Qj
open Sha Js Ev

def nsB (l:List UInt8):Bs:=l.map UInt8.toBitVec
theorem U8_nsB (l:List UInt8):U8 (nsB l)=l:=by
 unfold U8 nsB
 rw [List.map_map]
 exact List.map_id l
def tNum (n:BitVec 64):JT:=.mk 3#8 n [] [] []
def tText (s:Bs):JT:=.mk 4#8 0#64 s [] []
def hexB (D:Bs):Bs:=D.flatMap fun c=>[hexd (c.toNat / 16),hexd (c.toNat % 16)]
def idB:Bs:=[105#8,100#8]
def timeB:Bs:=[116#8,105#8,109#8,101#8]
def nameB:Bs:=[110#8,97#8,109#8,101#8]
def dataB:Bs:=[100#8,97#8,116#8,97#8]
def verB:Bs:=[113#8,108#8,111#8,103#8,95#8,118#8,101#8,114#8,115#8,105#8,111#8,110#8]
def evsB:Bs:=[101#8,118#8,101#8,110#8,116#8,115#8]
def v03B:Bs:=[48#8,46#8,51#8]
def evNs (k:BitVec 8):List Bs:=(evNames k).map nsB
def evNm (k:BitVec 8):Bs:=nsB (evName k)
def dataNs (k:BitVec 8):List Bs:=evNs k++if evData k=true then [idB] else []
def dataL (e:Ev):List JT:=e.N.map tNum++if evData e.k=true then [tText (hexB e.D)] else []
def dataJ (e:Ev):JT:=.mk 6#8 0#64 [] (dataL e) (dataNs e.k)
def evJ (e:Ev):JT:=.mk 6#8 0#64 [] [tNum e.t,tText (evNm e.k),dataJ e] [timeB,nameB,dataB]
def rootJ (es:List Ev):JT:=.mk 6#8 0#64 [] [tText v03B,.mk 5#8 0#64 [] (es.map evJ) []] [verB,evsB]
def idxN (s:Bs):List Bs→Option Nat
 | []=>none
 | x::l=>if s=x then some 0 else (idxN s l).map (·+1)
def memJ (v:JT) (s:Bs) (k:BitVec 8):Option JT:=match idxN s v.ns with
 | none=>none
 | some i=>match v.l[i]? with
  | none=>none
  | some x=>if x.k=k then some x else none
def hasJ (v:JT) (m:Nat):Bool:=decide (v.k=6#8) && (decide (v.ns.length=m) && decide (v.l.length=m))
def dig1 (c:BitVec 8):Option (BitVec 8):=if 48≤c.toNat∧c.toNat≤57 then some (c-48#8) else if 97≤c.toNat∧c.toNat≤102 then some (c-97#8+10#8) else none
def unhex:Bs→Option Bs
 | []=>some []
 | [_]=>none
 | a::b::l=>match dig1 a,dig1 b with
  | some x,some y=>(unhex l).map ((x <<< 4 ||| y)::·)
  | _,_=>none
def namedF (s:Bs):Nat→Nat→Option (BitVec 8)
 | 0,_=>none
 | f+1,k=>if evNm (BitVec.ofNat 8 k)=s then some (BitVec.ofNat 8 k) else namedF s f (k+1)
def namedM (s:Bs):Option (BitVec 8):=namedF s 19 1
def nums (v:JT):List Bs→Option (List (BitVec 64))
 | []=>some []
 | s::l=>match memJ v s 3#8 with
  | none=>none
  | some x=>(nums v l).map (x.n::·)
def fillM (k:BitVec 8) (v:JT):Option (List (BitVec 64) × Bs) :=
 if hasJ v (dataNs k).length=false then none else match nums v (evNs k) with
  | none=>none
  | some N=>if evData k=true then match memJ v idB 4#8 with
    | none=>none
    | some x=>(unhex x.s).map fun D=>(N,D)
   else some (N,[])
def evOf (v:JT):Ev ⊕ Int:=match memJ v timeB 3#8,memJ v nameB 4#8,memJ v dataB 6#8 with
 | some a,some b,some d=>if hasJ v 3=false then .inr 4 else match namedM b.s with
  | none=>.inr 5
  | some k=>match fillM k d with
   | none=>.inr 4
   | some (N,D)=>if checkM ⟨k,a.n,N,D⟩=0 then .inl ⟨k,a.n,N,D⟩ else .inr (checkM ⟨k,a.n,N,D⟩)
 | _,_,_=>.inr 4
def follM (e:Ev) (t:BitVec 64) (last:Bool):Int:=if e.t<t then 21 else if e.k=19#8∧last=false then 10 else 0
def evsF:List JT→BitVec 64→List Ev ⊕ Int
 | [],_=>.inl []
 | x::l,t=>match evOf x with
  | .inr e=>.inr e
  | .inl e=>if follM e t l.isEmpty=0 then match evsF l e.t with
    | .inr e=>.inr e
    | .inl es=>.inl (e::es)
   else .inr (follM e t l.isEmpty)
def parseM (s:Bs):List Ev ⊕ Int:=match parse s with
 | .bad e=>.inr e
 | .ok v _=>match idxN verB v.ns,memJ v evsB 5#8 with
  | some i,some y=>if hasJ v 2=false then .inr 4 else match v.l[i]? with
   | none=>.inr 4
   | some x=>if x.k=4#8∧x.s=v03B then if 2048<y.l.length then .inr 7 else evsF y.l 0#64 else .inr 12
  | _,_=>.inr 4
def prtF:List Ev→BitVec 64→Int
 | [],_=>0
 | e::l,t=>if checkM e≠0 then checkM e else if follM e t l.isEmpty≠0 then follM e t l.isEmpty else prtF l e.t
def prtM (es:List Ev):Int:=if 2048<es.length then 7 else prtF es 0#64
end Qj
end
section
namespace Qj
open Sha Js Ev
theorem idxN_at {s:Bs}:∀ {p r:List Bs},s ∉ p→idxN s (p++s::r)=some p.length
 | [],r,_=>by show idxN s (s::r)=_; rw [idxN,if_pos rfl]; rfl
 | a::p,r,h=>by
  rw [List.mem_cons,not_or] at h
  show idxN s (a::(p++s::r))=_
  rw [idxN,if_neg h.1,idxN_at h.2]
  rfl
theorem memJ_at {v x:JT} {s:Bs} {k:BitVec 8} {p r:List Bs} {pl rl:List JT} (hn:v.ns=p++s::r) (hl:v.l=pl++x::rl) (h:p.length=pl.length) (hs:s ∉ p) (hk:x.k=k):memJ v s k=some x:=by
 unfold memJ
 rw [hn,idxN_at hs,hl,h]
 dsimp only
 rw [List.getElem?_append_right (Nat.le_refl _),Nat.sub_self,List.getElem?_cons_zero]
 dsimp only
 rw [if_pos hk]
theorem nums_at {v:JT}:∀ (l:List Bs) (N:List (BitVec 64)) {p r:List Bs} {pl rl:List JT},v.ns=p++(l++r)→v.l=pl++(N.map tNum++rl)→p.length=pl.length→N.length=l.length→(p++l).Nodup→nums v l=some N
 | [],[],_,_,_,_,_,_,_,_,_=>rfl
 | [],_::_,_,_,_,_,_,_,_,h,_=>by simp at h
 | _::_,[],_,_,_,_,_,_,_,h,_=>by simp at h
 | s::l,n::N,p,r,pl,rl,hn,hl,h,hN,hd=>by
  have hs:s ∉ p:=fun hs=>(List.nodup_append.1 hd).2.2 s hs s (List.mem_cons_self ..) rfl
  rw [nums,memJ_at (x:=tNum n) (k:=3#8) hn hl h hs rfl]
  dsimp only
  rw [nums_at l N (p:=p++[s]) (r:=r) (pl:=pl++[tNum n]) (rl:=rl) (by rw [hn]; simp) (by rw [hl]; simp) (by simp [h]) (by simpa using hN) (by rw [List.append_assoc]; exact hd)]
  rfl
theorem hex_fin:∀ c:Fin 256,dig1 (hexd (c.val / 16))=some (BitVec.ofNat 8 (c.val / 16))∧dig1 (hexd (c.val % 16))=some (BitVec.ofNat 8 (c.val % 16))∧(BitVec.ofNat 8 (c.val / 16) <<< 4 ||| BitVec.ofNat 8 (c.val % 16))=BitVec.ofNat 8 c.val:=by decide +kernel
theorem unhex_hex:∀ D:Bs,unhex (hexB D)=some D
 | []=>rfl
 | c::D=>by
  obtain ⟨h1,h2,h3⟩:=hex_fin ⟨c.toNat,c.isLt⟩
  dsimp only at h1 h2 h3
  have e:hexB (c::D)=hexd (c.toNat / 16)::hexd (c.toNat % 16)::hexB D:=rfl
  rw [e,unhex,h1,h2]
  dsimp only
  rw [unhex_hex D,h3,BitVec.ofNat_toNat,BitVec.setWidth_eq]
  rfl
theorem nm_fin:∀ k:Fin 20,1≤k.val→namedM (evNm (BitVec.ofNat 8 k.val))=some (BitVec.ofNat 8 k.val)∧(dataNs (BitVec.ofNat 8 k.val)).Nodup∧((dataNs (BitVec.ofNat 8 k.val)).all fun s=>s.all fun c=>decide (c.toNat<128))=true∧((evNm (BitVec.ofNat 8 k.val)).all fun c=>decide (c.toNat<128))=true:=by decide +kernel
theorem nm_ok {k:BitVec 8} (h:evOk k=true):namedM (evNm k)=some k∧(dataNs k).Nodup∧(∀ s∈dataNs k,∀ c∈s,c.toNat<128)∧(∀ c∈evNm k,c.toNat<128):=by
 have h1:=of_decide_eq_true h
 obtain ⟨g1,g2,g3,g4⟩:=nm_fin ⟨k.toNat,by omega⟩ h1.1
 dsimp only at g1 g2 g3 g4
 rw [BitVec.ofNat_toNat,BitVec.setWidth_eq] at g1 g2 g3 g4
 simp only [List.all_eq_true,decide_eq_true_eq] at g3 g4
 exact ⟨g1,g2,g3,g4⟩
theorem check_ok {e:Ev} (h:checkM e=0):evOk e.k=true∧e.N.length=(evNames e.k).length∧e.D.length≤20∧(evData e.k=false→e.D=[]):=by
 unfold checkM at h
 split at h
 ·cases h
 rename_i h1
 split at h
 ·cases h
 split at h
 ·cases h
 rename_i h3
 split at h
 ·cases h
 rename_i h4
 split at h
 ·cases h
 rename_i h5
 refine ⟨by simpa using h1,Decidable.not_not.1 h3,by omega,fun hd=>?_⟩
 have:¬ 0<e.D.length:=fun hp=>h5 ⟨hp,hd⟩
 exact List.eq_nil_of_length_eq_zero (by omega)
theorem fill_back {e:Ev} (h:checkM e=0):fillM e.k (dataJ e)=some (e.N,e.D):=by
 obtain ⟨h1,h2,h3,h4⟩:=check_ok h
 obtain ⟨g1,g2,g3,g4⟩:=nm_ok h1
 have hN:e.N.length=(evNs e.k).length:=by rw [h2,evNs,List.length_map]
 have hnd:(evNs e.k).Nodup:=(List.nodup_append.1 g2).1
 have hdl:(dataL e).length=(dataNs e.k).length:=by
  unfold dataL dataNs
  rw [List.length_append,List.length_append,List.length_map,hN]
  by_cases hd:evData e.k=true
  ·rw [if_pos hd,if_pos hd]; rfl
  ·rw [if_neg hd,if_neg hd]; rfl
 have hhas:hasJ (dataJ e) (dataNs e.k).length=true:=by
  unfold hasJ
  rw [show (dataJ e).k=6#8 from rfl,show (dataJ e).ns=dataNs e.k from rfl,show (dataJ e).l=dataL e from rfl,hdl]
  simp
 have hnums:nums (dataJ e) (evNs e.k)=some e.N :=
  nums_at (v:=dataJ e) (evNs e.k) e.N (p:=[]) (pl:=[]) (r:=if evData e.k=true then [idB] else []) (rl:=if evData e.k=true then [tText (hexB e.D)] else []) rfl rfl rfl hN hnd
 unfold fillM
 rw [hhas,if_neg (by decide),hnums]
 dsimp only
 by_cases hd:evData e.k=true
 ·rw [if_pos hd]
  have hm:memJ (dataJ e) idB 4#8=some (tText (hexB e.D)):=by
   refine memJ_at (p:=evNs e.k) (r:=[]) (pl:=e.N.map tNum) (rl:=[]) ?_ ?_ (by rw [List.length_map,hN]) ?_ rfl
   ·show dataNs e.k=_
    unfold dataNs; rw [if_pos hd]
   ·show dataL e=_
    unfold dataL; rw [if_pos hd]
   ·intro hs
    have g:=g2
    unfold dataNs at g
    rw [if_pos hd] at g
    exact (List.nodup_append.1 g).2.2 idB hs idB (List.mem_singleton.2 rfl) rfl
  rw [hm]
  dsimp only
  rw [show (tText (hexB e.D)).s=hexB e.D from rfl,unhex_hex]
  rfl
 ·rw [if_neg hd,h4 (by simpa using hd)]
theorem ev_back {e:Ev} (h:checkM e=0):evOf (evJ e)=.inl e:=by
 obtain ⟨h1,_⟩:=check_ok h
 obtain ⟨g1,_⟩:=nm_ok h1
 have m1:memJ (evJ e) timeB 3#8=some (tNum e.t):=rfl
 have m2:memJ (evJ e) nameB 4#8=some (tText (evNm e.k)):=rfl
 have m3:memJ (evJ e) dataB 6#8=some (dataJ e):=rfl
 unfold evOf
 rw [m1,m2,m3]
 dsimp only
 rw [show hasJ (evJ e) 3=true from rfl,if_neg (by decide),show (tText (evNm e.k)).s=evNm e.k from rfl,g1]
 dsimp only
 rw [fill_back h]
 dsimp only
 rw [show (⟨e.k,(tNum e.t).n,e.N,e.D⟩:Ev)=e from rfl,if_pos h]
theorem evsF_back:∀ (es:List Ev) (t:BitVec 64),prtF es t=0→evsF (es.map evJ) t=.inl es
 | [],_,_=>rfl
 | e::es,t,h=>by
  rw [prtF] at h
  by_cases hc:checkM e=0
  ·rw [if_neg (not_not_intro hc)] at h
   by_cases hf:follM e t es.isEmpty=0
   ·rw [if_neg (not_not_intro hf)] at h
    rw [List.map_cons,evsF,ev_back hc]
    dsimp only
    have he:(es.map evJ).isEmpty=es.isEmpty:=by cases es <;> rfl
    rw [he,if_pos hf,evsF_back es e.t h]
   ·rw [if_pos hf] at h
    exact absurd h hf
  ·rw [if_pos hc] at h
   exact absurd h hc
theorem prtM_ok {es:List Ev} (h:prtM es=0):es.length≤2048∧prtF es 0#64=0:=by
 unfold prtM at h
 split at h
 ·cases h
 ·exact ⟨by omega,h⟩
theorem parseM_back {es:List Ev} {s r:Bs} (hp:parse s=.ok (rootJ es) r) (h:prtM es=0):parseM s=.inl es:=by
 obtain ⟨h1,h2⟩:=prtM_ok h
 have m1:idxN verB (rootJ es).ns=some 0:=rfl
 have m2:memJ (rootJ es) evsB 5#8=some (.mk 5#8 0#64 [] (es.map evJ) []):=rfl
 have m3:(rootJ es).l[0]?=some (tText v03B):=rfl
 unfold parseM
 rw [hp]
 dsimp only
 rw [m1,m2]
 dsimp only
 rw [show hasJ (rootJ es) 2=true from rfl,if_neg (by decide),m3]
 dsimp only
 rw [if_pos ⟨rfl,rfl⟩,show (JT.mk 5#8 0#64 [] (es.map evJ) []).l=es.map evJ from rfl,List.length_map,if_neg (by omega),evsF_back es _ h2]
theorem leaf_num (n:BitVec 64):leaf (tNum n):=⟨rfl,rfl,.inl rfl,.inr rfl,by show 3≤4; decide,Utf.nil⟩
theorem leaf_text {s:Bs} (h:Utf s):leaf (tText s):=⟨rfl,rfl,.inr rfl,.inl rfl,by show 4≤4; decide,h⟩
theorem hexd_fin:∀ c:Fin 16,(hexd c.val).toNat<128:=by decide +kernel
theorem hexB_ascii (D:Bs):∀ c∈hexB D,c.toNat<128:=by
 intro c hc
 unfold hexB at hc
 rw [List.mem_flatMap] at hc
 obtain ⟨d,_,hd⟩:=hc
 have:=d.isLt
 simp only [List.mem_cons,List.not_mem_nil,or_false] at hd
 rcases hd with rfl|rfl
 ·exact hexd_fin ⟨d.toNat / 16,by omega⟩
 ·exact hexd_fin ⟨d.toNat % 16,by omega⟩
theorem nd3:[timeB,nameB,dataB].Nodup:=by decide
theorem nd2:[verB,evsB].Nodup:=by decide
theorem norm_ev {e:Ev} (h:checkM e=0):norm 2 (evJ e):=by
 obtain ⟨h1,h2,h3,h4⟩:=check_ok h
 obtain ⟨g1,g2,g3,g4⟩:=nm_ok h1
 refine .inr ⟨rfl,rfl,fun x hx=>?_,.inr ⟨rfl,rfl,nd3,fun s hs=>?_⟩⟩
 ·simp only [evJ,JT.l,List.mem_cons,List.not_mem_nil,or_false] at hx
  rcases hx with rfl|rfl|rfl
  ·exact .inl (leaf_num _)
  ·exact .inl (leaf_text (Utf.ascii g4))
  ·refine .inr ⟨rfl,rfl,fun x hx=>?_,.inr ⟨rfl,?_,g2,fun s hs=>Utf.ascii (g3 s hs)⟩⟩
   ·have hx:x∈dataL e:=hx
    unfold dataL at hx
    rcases List.mem_append.1 hx with hx|hx
    ·obtain ⟨n,_,rfl⟩:=List.mem_map.1 hx
     exact leaf_num n
    ·split at hx
     ·rw [List.mem_singleton] at hx
      subst hx
      exact leaf_text (Utf.ascii (hexB_ascii _))
     ·cases hx
   ·show (dataNs e.k).length=(dataL e).length
    unfold dataL dataNs evNs
    rw [List.length_append,List.length_append,List.length_map,List.length_map,h2]
    by_cases hd:evData e.k=true
    ·rw [if_pos hd,if_pos hd]; rfl
    ·rw [if_neg hd,if_neg hd]; rfl
 ·have:∀ s∈[timeB,nameB,dataB],∀ c∈s,c.toNat<128:=by decide
  exact Utf.ascii (this s hs)
theorem prtF_all:∀ (es:List Ev) (t:BitVec 64),prtF es t=0→∀ e∈es,checkM e=0
 | [],_,_,_,he=>by cases he
 | x::es,t,h,e,he=>by
  rw [prtF] at h
  by_cases hc:checkM x=0
  ·rw [if_neg (not_not_intro hc)] at h
   by_cases hf:follM x t es.isEmpty=0
   ·rw [if_neg (not_not_intro hf)] at h
    rcases List.mem_cons.1 he with rfl|he
    ·exact hc
    ·exact prtF_all es x.t h e he
   ·rw [if_pos hf] at h
    exact absurd h hf
  ·rw [if_pos hc] at h
   exact absurd h hc
theorem norm_root {es:List Ev} (h:prtM es=0):norm 4 (rootJ es):=by
 obtain ⟨h1,h2⟩:=prtM_ok h
 refine .inr ⟨rfl,rfl,fun x hx=>?_,.inr ⟨rfl,rfl,nd2,fun s hs=>?_⟩⟩
 ·simp only [rootJ,JT.l,List.mem_cons,List.not_mem_nil,or_false] at hx
  rcases hx with rfl|rfl
  ·exact .inl (leaf_text (Utf.ascii (by decide)))
  ·refine .inr ⟨rfl,rfl,fun y hy=>?_,.inl ⟨rfl,rfl⟩⟩
   obtain ⟨e,he,rfl⟩:=List.mem_map.1 hy
   exact norm_ev (prtF_all es _ h2 e he)
 ·have:∀ s∈[verB,evsB],∀ c∈s,c.toNat<128:=by decide
  exact Utf.ascii (this s hs)
end Qj
end
section
namespace Qj
open Sha Js Ev
theorem putL_congr {f g:JT→Bs}:∀ {l:List JT},(∀ x∈l,f x=g x)→putL f l=putL g l
 | [],_=>rfl
 | [x],h=>h x (List.mem_cons_self ..)
 | x::y::l,h=>by
  rw [putL_cons f x (y::l) (by simp),putL_cons g x (y::l) (by simp),h x (List.mem_cons_self ..),putL_congr fun z hz=>h z (List.mem_cons_of_mem _ hz)]
theorem putO_congr {f g:JT→Bs}:∀ {ns:List Bs} {l:List JT},(∀ x∈l,f x=g x)→putO f ns l=putO g ns l
 | [],[],_=>rfl
 | _::_,[],_=>rfl
 | [],_::_,_=>rfl
 | s::ns,[x],h=>by
  show quote s++58#8::f x=quote s++58#8::g x
  rw [h x (List.mem_cons_self ..)]
 | s::ns,x::y::l,h=>by
  rw [putO_cons f s ns x (y::l) (by simp),putO_cons g s ns x (y::l) (by simp),h x (List.mem_cons_self ..),putO_congr fun z hz=>h z (List.mem_cons_of_mem _ hz)]
theorem norm_up:∀ {d:Nat} {v:JT},norm d v→norm (d+1) v
 | 0,_,h=>.inl h
 | d+1,v,h=>by
  rcases h with h|⟨h1,h2,h3,h4⟩
  ·exact .inl h
  ·exact .inr ⟨h1,h2,fun x hx=>norm_up (h3 x hx),h4⟩
theorem put_up:∀ {d:Nat} {v:JT},norm d v→put (d+1) v=put d v
 | 0,v,h=>by rw [put_leaf (d:=1) h,put_leaf (d:=0) h]
 | d+1,v,h=>by
  rcases h with h|⟨h1,h2,h3,h4⟩
  ·rw [put_leaf (d:=d+2) h,put_leaf (d:=d+1) h]
  ·have e1:putL (put (d+1)) v.l=putL (put d) v.l:=putL_congr fun x hx=>put_up (h3 x hx)
   have e2:putO (put (d+1)) v.ns v.l=putO (put d) v.ns v.l:=putO_congr fun x hx=>put_up (h3 x hx)
   show put1 (putL (put (d+1))) (putO (put (d+1))) v=put1 (putL (put d)) (putO (put d)) v
   unfold put1
   rw [e1,e2]
theorem put_root {es:List Ev} (h:prtM es=0):norm 8 (rootJ es)∧put 8 (rootJ es)=put 4 (rootJ es):=by
 have h4:=norm_root h
 have h5:=norm_up h4
 have h6:=norm_up h5
 have h7:=norm_up h6
 exact ⟨norm_up h7,by rw [put_up h7,put_up h6,put_up h5,put_up h4]⟩
theorem putL_le {pv:JT→Bs} {B:Nat}:∀ {l:List JT},(∀ x∈l,(pv x).length≤B)→(putL pv l).length≤l.length*(B+1)
 | [],_=>Nat.zero_le _
 | [x],h=>by
  have:=h x (List.mem_cons_self ..)
  show (pv x).length≤1*(B+1)
  omega
 | x::y::l,h=>by
  have h1:=h x (List.mem_cons_self ..)
  have h2:=putL_le fun z hz=>h z (List.mem_cons_of_mem _ hz)
  rw [putL_cons _ _ _ (by simp),List.length_append,List.length_cons,List.length_cons (a:=x),Nat.add_mul]
  omega
theorem putO_le {pv:JT→Bs} {B Q:Nat}:∀ {ns:List Bs} {l:List JT},(∀ x∈l,(pv x).length≤B)→(∀ s∈ns,(quote s).length≤Q)→(putO pv ns l).length≤l.length*(B+Q+2)
 | [],[],_,_=>Nat.zero_le _
 | _::_,[],_,_=>Nat.zero_le _
 | [],_::_,_,_=>Nat.zero_le _
 | s::ns,[x],h,hq=>by
  have h1:=h x (List.mem_cons_self ..)
  have h2:=hq s (List.mem_cons_self ..)
  show (quote s++58#8::pv x).length≤1*(B+Q+2)
  rw [List.length_append,List.length_cons]
  omega
 | s::ns,x::y::l,h,hq=>by
  have h1:=h x (List.mem_cons_self ..)
  have h2:=hq s (List.mem_cons_self ..)
  have h3:=putO_le (fun z hz=>h z (List.mem_cons_of_mem _ hz)) (fun z hz=>hq z (List.mem_cons_of_mem _ hz))
  rw [putO_cons _ _ _ _ _ (by simp),List.length_append,List.length_cons,List.length_append,List.length_cons,List.length_cons (a:=x),Nat.add_mul]
  omega
end Qj
end
section
namespace Qj
open Sha Js Ev
def plc (c:BitVec 8):Bool:=decide (32≤c.toNat∧c.toNat<128∧c.toNat≠34∧c.toNat≠92)
theorem plain_flat:∀ s:Bs,s.all plc=true→(s.map BitVec.toNat).flatMap enc=s∧(s.map BitVec.toNat).flatMap qr=s∧∀ r∈s.map BitVec.toNat,scal r
 | [],_=>⟨rfl,rfl,by simp⟩
 | c::s,h=>by
  rw [List.all_cons,Bool.and_eq_true] at h
  obtain ⟨g1,g2,g3⟩:=plain_flat s h.2
  have hc:=of_decide_eq_true h.1
  have e1:enc c.toNat=[c]:=by unfold enc; rw [if_pos hc.2.1,b8_self]
  have e2:qr c.toNat=[c]:=by
   unfold qr
   rw [if_neg (by omega),if_neg (by omega),if_neg (by omega),if_neg (by omega),if_neg (by omega),e1]
  refine ⟨by rw [List.map_cons,List.flatMap_cons,g1,e1]; rfl,by rw [List.map_cons,List.flatMap_cons,g2,e2]; rfl,fun r hr=>?_⟩
  rw [List.map_cons,List.mem_cons] at hr
  rcases hr with rfl|hr
  ·exact .inl (by omega)
  ·exact g3 r hr
theorem quote_plain {s:Bs} (h:s.all plc=true):(quote s).length=s.length+2:=by
 obtain ⟨g1,g2,g3⟩:=plain_flat s h
 have:=quote_of g3
 rw [g1,g2] at this
 rw [this]
 simp
theorem sz_fin:∀ k:Fin 20,1≤k.val→((dataNs (BitVec.ofNat 8 k.val)).all fun s=>s.all plc && decide (s.length≤24))=true∧(dataNs (BitVec.ofNat 8 k.val)).length≤10∧(evNm (BitVec.ofNat 8 k.val)).all plc=true∧(evNm (BitVec.ofNat 8 k.val)).length≤32:=by decide +kernel
theorem hexd_pl:∀ c:Fin 16,plc (hexd c.val)=true:=by decide +kernel
theorem hexB_pl (D:Bs):(hexB D).all plc=true:=by
 rw [List.all_eq_true]
 intro c hc
 unfold hexB at hc
 rw [List.mem_flatMap] at hc
 obtain ⟨d,_,hd⟩:=hc
 have:=d.isLt
 simp only [List.mem_cons,List.not_mem_nil,or_false] at hd
 rcases hd with rfl|rfl
 ·exact hexd_pl ⟨d.toNat / 16,by omega⟩
 ·exact hexd_pl ⟨d.toNat % 16,by omega⟩
theorem hexB_n2:∀ D:Bs,(hexB D).length=2*D.length
 | []=>rfl
 | c::D=>by
  have:=hexB_n2 D
  have e:hexB (c::D)=hexd (c.toNat / 16)::hexd (c.toNat % 16)::hexB D:=rfl
  rw [e,List.length_cons,List.length_cons,List.length_cons,this]
  omega
theorem num_len (d:Nat) (n:BitVec 64):(put d (tNum n)).length≤20:=by
 rw [put_leaf (leaf_num n)]
 show (dig n.toNat).length≤20
 have:=n.isLt
 exact digs_len 20 n.toNat 20 (by omega) (by decide)
theorem text_len (d:Nat) {s:Bs} (h:s.all plc=true) (hu:Utf s):(put d (tText s)).length=s.length+2:=by
 rw [put_leaf (leaf_text hu)]
 show (quote s).length=_
 exact quote_plain h
theorem obj_len {d:Nat} {s:Bs} {n:BitVec 64} {l:List JT} {ns:List Bs} {B Q:Nat} (h:∀ x∈l,(put d x).length≤B) (hq:∀ s∈ns,(quote s).length≤Q):(put (d+1) (.mk 6#8 n s l ns)).length≤l.length*(B+Q+2)+2:=by
 show (123#8::(putO (put d) ns l++[125#8])).length≤_
 have:=putO_le (ns:=ns) h hq
 rw [List.length_cons,List.length_append]
 show _+1+1≤_
 omega
theorem lst_len {d:Nat} {s:Bs} {n:BitVec 64} {l:List JT} {ns:List Bs} {B:Nat} (h:∀ x∈l,(put d x).length≤B):(put (d+1) (.mk 5#8 n s l ns)).length≤l.length*(B+1)+2:=by
 show (91#8::(putL (put d) l++[93#8])).length≤_
 have:=putL_le h
 rw [List.length_cons,List.length_append]
 show _+1+1≤_
 omega
theorem ev_len {e:Ev} (h:checkM e=0):(put 2 (evJ e)).length≤2132:=by
 obtain ⟨h1,h2,h3,h4⟩:=check_ok h
 have hk:=of_decide_eq_true h1
 obtain ⟨g1,g2,g3,g4⟩:=sz_fin ⟨e.k.toNat,by omega⟩ hk.1
 dsimp only at g1 g2 g3 g4
 rw [BitVec.ofNat_toNat,BitVec.setWidth_eq] at g1 g2 g3 g4
 obtain ⟨_,_,_,u4⟩:=nm_ok h1
 have hdl:(dataL e).length=(dataNs e.k).length:=by
  unfold dataL dataNs evNs
  rw [List.length_append,List.length_append,List.length_map,List.length_map,h2]
  by_cases hd:evData e.k=true
  ·rw [if_pos hd,if_pos hd]; rfl
  ·rw [if_neg hd,if_neg hd]; rfl
 have hdat:(put 1 (dataJ e)).length≤702:=by
  have:=obj_len (d:=0) (s:=[]) (n:=0#64) (l:=dataL e) (ns:=dataNs e.k) (B:=42) (Q:=26) (fun x hx=>by
   unfold dataL at hx
   rcases List.mem_append.1 hx with hx|hx
   ·obtain ⟨n,_,rfl⟩:=List.mem_map.1 hx
    exact Nat.le_trans (num_len 0 n) (by decide)
   ·split at hx
    ·rw [List.mem_singleton] at hx
     subst hx
     rw [text_len 0 (hexB_pl _) (Utf.ascii (hexB_ascii _)),hexB_n2]
     omega
    ·cases hx) (fun s hs=>by
   rw [List.all_eq_true] at g1
   have g:=g1 s hs
   rw [Bool.and_eq_true] at g
   rw [quote_plain g.1]
   have:=of_decide_eq_true g.2
   omega)
  refine Nat.le_trans this ?_
  have:(dataL e).length*(42+26+2)≤10*70:=Nat.mul_le_mul (by omega) (by decide)
  omega
 refine Nat.le_trans (obj_len (d:=1) (s:=[]) (n:=0#64) (ns:=[timeB,nameB,dataB]) (B:=702) (Q:=6) (l:=[tNum e.t,tText (evNm e.k),dataJ e]) (fun x hx=>?_) (fun s hs=>?_)) (show 3*(702+6+2)+2≤2132 by omega)
 ·simp only [List.mem_cons,List.not_mem_nil,or_false] at hx
  rcases hx with rfl|rfl|rfl
  ·exact Nat.le_trans (num_len 1 _) (by decide)
  ·rw [text_len 1 g3 (Utf.ascii u4)]; omega
  ·exact hdat
 ·have:∀ s∈[timeB,nameB,dataB],(quote s).length≤6:=by decide
  exact this s hs
theorem q2:∀ s∈[verB,evsB],(quote s).length≤14:=by
 intro s hs
 simp only [List.mem_cons,List.not_mem_nil,or_false] at hs
 rcases hs with rfl|rfl
 ·rw [quote_plain (by decide)]; decide
 ·rw [quote_plain (by decide)]; decide
theorem root_len {es:List Ev} (h:prtM es=0):(put 4 (rootJ es)).length≤es.length*4266+1000:=by
 obtain ⟨h1,h2⟩:=prtM_ok h
 have hl:(put 3 (.mk 5#8 0#64 [] (es.map evJ) [])).length≤(es.map evJ).length*(2132+1)+2:=lst_len (d:=2) fun x hx=>by
  obtain ⟨e,he,rfl⟩:=List.mem_map.1 hx
  exact ev_len (prtF_all es _ h2 e he)
 rw [List.length_map] at hl
 have:=obj_len (d:=3) (s:=[]) (n:=0#64) (l:=[tText v03B,.mk 5#8 0#64 [] (es.map evJ) []]) (ns:=[verB,evsB]) (B:=es.length*2133+7) (Q:=14) (fun x hx=>by
  simp only [List.mem_cons,List.not_mem_nil,or_false] at hx
  rcases hx with rfl|rfl
  ·rw [text_len 3 (by decide) (Utf.ascii (by decide))]
   show 3+2≤_
   omega
  ·exact Nat.le_trans hl (by omega)) (fun s hs=>q2 s hs)
 refine Nat.le_trans this ?_
 show 2*(es.length*2133+7+14+2)+2≤_
 omega
end Qj
end
section
namespace Sx
open Go.RowKit Sha Vi Ev

end Sx
end
section
namespace Sx
open Go.RowKit Sha Vi Ev

theorem eqC_strs' {q:List Nat} (l:List (List UInt8)) {j n:Nat} (hn:n=l.length) (h:j<n):eqC q (nthC (l.map SC.str) j) (strsF l j) True:=eqC_strs l (by omega)
set_option maxRecDepth 20000 in
set_option maxHeartbeats 8000000 in
theorem fn_names:Fn Tryd.prog tds 50 [] [] (fun _=>True)
  (fun y hs=>y=.a (.c (.sl 19 0 0 19 19))∧hs=[[.row 2 (strsF [[112,104,97,115,101],[112,104,97,115,101]])],[.row 6 (strsF [[112,97,99,107,101,116,95,115,101,110,116],[115,112,97,99,101],[110,117,109,98,101,114],[115,105,122,101],[101,108,105,99,105,116,105,110,103],[102,108,105,103,104,116]])],[.row 4 (strsF [[112,97,99,107,101,116,95,114,101,99,101,105,118,101,100],[115,112,97,99,101],[110,117,109,98,101,114],[115,105,122,101]])],[.row 3 (strsF [[112,97,99,107,101,116,95,97,99,107,101,100],[115,112,97,99,101],[110,117,109,98,101,114]])],[.row 4 (strsF [[112,97,99,107,101,116,95,108,111,115,116],[115,112,97,99,101],[110,117,109,98,101,114],[119,104,121]])],[.row 2 (strsF [[115,112,97,99,101,95,100,114,111,112,112,101,100],[115,112,97,99,101]])],[.row 3 (strsF [[114,97,110,103,101,115,95,102,111,114,103,111,116,116,101,110],[115,112,97,99,101],[98,101,108,111,119]])],[.row 9 (strsF [[109,101,116,114,105,99,115,95,117,112,100,97,116,101,100],[108,97,116,101,115,116],[108,101,97,115,116],[115,109,111,111,116,104],[118,97,114,105,97,110,99,101],[119,105,110,100,111,119],[102,108,105,103,104,116],[115,108,111,119],[112,114,111,98,101,115]])],[.row 6 (strsF [[99,114,101,100,105,116,95,117,112,100,97,116,101,100],[115,116,114,101,97,109],[103,105,118,101,110],[117,115,101,100],[103,111,116],[115,112,101,110,116]])],[.row 8 (strsF [[115,116,114,101,97,109,95,117,112,100,97,116,101,100],[115,116,114,101,97,109],[115,101,110,100],[119,114,105,116,116,101,110],[99,97,109,101],[114,101,99,118],[114,101,97,100],[104,105,103,104]])],[.row 3 (strsF [[111,119,110,95,105,100,95,103,105,118,101,110],[115,101,113],[43]])],[.row 2 (strsF [[111,119,110,95,105,100,95,114,101,116,105,114,101,100],[115,101,113]])],[.row 3 (strsF [[111,116,104,101,114,95,105,100,95,103,105,118,101,110],[115,101,113],[43]])],[.row 2 (strsF [[111,116,104,101,114,95,105,100,95,114,101,116,105,114,101,100],[115,101,113]])],[.row 2 (strsF [[105,100,95,117,115,101,100],[115,101,113]])],[.row 3 (strsF [[112,97,116,104,95,117,112,100,97,116,101,100],[112,97,116,104],[115,116,97,116,101]])],[.row 3 (strsF [[107,101,121,95,117,112,100,97,116,101,100],[115,112,97,99,101],[116,117,114,110]])],[.row 4 (strsF [[99,111,110,110,101,99,116,105,111,110,95,99,108,111,115,101,100],[99,111,100,101],[97,112,112],[111,119,110]])],[.row 1 (strsF [[108,111,103,95,116,114,117,110,99,97,116,101,100]])],[.row 19 (nthC [.sl 0 0 0 2 2,.sl 1 0 0 6 6,.sl 2 0 0 4 4,.sl 3 0 0 3 3,.sl 4 0 0 4 4,.sl 5 0 0 2 2,.sl 6 0 0 3 3,.sl 7 0 0 9 9,.sl 8 0 0 6 6,.sl 9 0 0 8 8,.sl 10 0 0 3 3,.sl 11 0 0 2 2,.sl 12 0 0 3 3,.sl 13 0 0 2 2,.sl 14 0 0 2 2,.sl 15 0 0 3 3,.sl 16 0 0 3 3,.sl 17 0 0 4 4,.sl 18 0 0 1 1])]]):=by
 refine fn_of_body tds_ok follows_ Tryd.func50 rfl (t:=anys Tryd.f50.ntmps) rfl (fun w r0 hr _=>?_)
 obtain rfl:r0=[]:=List.eq_nil_of_length_eq_zero hr
 (repeat show _∧_;first|refine yr ?_|refine yt ?_|refine yf ?_|refine yo ?_)
 refine ⟨.a (.c (.sl 19 0 0 19 19)),_,⟨[0,1,2,3,4,5,6,7,8,9,10,11,12,13,14,15,16,17,18,19],⟨rfl,rfl,rfl⟩,?_⟩,rfl,rfl⟩
 (repeat first|exact trivial|refine ent1 ?_)
 refine And.intro (fun j hj=>eqC_strs' [[112,104,97,115,101],[112,104,97,115,101]] rfl hj) ?_
 (repeat first|exact trivial|refine ent1 ?_)
 refine And.intro (fun j hj=>eqC_strs' [[112,97,99,107,101,116,95,115,101,110,116],[115,112,97,99,101],[110,117,109,98,101,114],[115,105,122,101],[101,108,105,99,105,116,105,110,103],[102,108,105,103,104,116]] rfl hj) ?_
 (repeat first|exact trivial|refine ent1 ?_)
 refine And.intro (fun j hj=>eqC_strs' [[112,97,99,107,101,116,95,114,101,99,101,105,118,101,100],[115,112,97,99,101],[110,117,109,98,101,114],[115,105,122,101]] rfl hj) ?_
 (repeat first|exact trivial|refine ent1 ?_)
 refine And.intro (fun j hj=>eqC_strs' [[112,97,99,107,101,116,95,97,99,107,101,100],[115,112,97,99,101],[110,117,109,98,101,114]] rfl hj) ?_
 (repeat first|exact trivial|refine ent1 ?_)
 refine And.intro (fun j hj=>eqC_strs' [[112,97,99,107,101,116,95,108,111,115,116],[115,112,97,99,101],[110,117,109,98,101,114],[119,104,121]] rfl hj) ?_
 (repeat first|exact trivial|refine ent1 ?_)
 refine And.intro (fun j hj=>eqC_strs' [[115,112,97,99,101,95,100,114,111,112,112,101,100],[115,112,97,99,101]] rfl hj) ?_
 (repeat first|exact trivial|refine ent1 ?_)
 refine And.intro (fun j hj=>eqC_strs' [[114,97,110,103,101,115,95,102,111,114,103,111,116,116,101,110],[115,112,97,99,101],[98,101,108,111,119]] rfl hj) ?_
 (repeat first|exact trivial|refine ent1 ?_)
 refine And.intro (fun j hj=>eqC_strs' [[109,101,116,114,105,99,115,95,117,112,100,97,116,101,100],[108,97,116,101,115,116],[108,101,97,115,116],[115,109,111,111,116,104],[118,97,114,105,97,110,99,101],[119,105,110,100,111,119],[102,108,105,103,104,116],[115,108,111,119],[112,114,111,98,101,115]] rfl hj) ?_
 (repeat first|exact trivial|refine ent1 ?_)
 refine And.intro (fun j hj=>eqC_strs' [[99,114,101,100,105,116,95,117,112,100,97,116,101,100],[115,116,114,101,97,109],[103,105,118,101,110],[117,115,101,100],[103,111,116],[115,112,101,110,116]] rfl hj) ?_
 (repeat first|exact trivial|refine ent1 ?_)
 refine And.intro (fun j hj=>eqC_strs' [[115,116,114,101,97,109,95,117,112,100,97,116,101,100],[115,116,114,101,97,109],[115,101,110,100],[119,114,105,116,116,101,110],[99,97,109,101],[114,101,99,118],[114,101,97,100],[104,105,103,104]] rfl hj) ?_
 (repeat first|exact trivial|refine ent1 ?_)
 refine And.intro (fun j hj=>eqC_strs' [[111,119,110,95,105,100,95,103,105,118,101,110],[115,101,113],[43]] rfl hj) ?_
 (repeat first|exact trivial|refine ent1 ?_)
 refine And.intro (fun j hj=>eqC_strs' [[111,119,110,95,105,100,95,114,101,116,105,114,101,100],[115,101,113]] rfl hj) ?_
 (repeat first|exact trivial|refine ent1 ?_)
 refine And.intro (fun j hj=>eqC_strs' [[111,116,104,101,114,95,105,100,95,103,105,118,101,110],[115,101,113],[43]] rfl hj) ?_
 (repeat first|exact trivial|refine ent1 ?_)
 refine And.intro (fun j hj=>eqC_strs' [[111,116,104,101,114,95,105,100,95,114,101,116,105,114,101,100],[115,101,113]] rfl hj) ?_
 (repeat first|exact trivial|refine ent1 ?_)
 refine And.intro (fun j hj=>eqC_strs' [[105,100,95,117,115,101,100],[115,101,113]] rfl hj) ?_
 (repeat first|exact trivial|refine ent1 ?_)
 refine And.intro (fun j hj=>eqC_strs' [[112,97,116,104,95,117,112,100,97,116,101,100],[112,97,116,104],[115,116,97,116,101]] rfl hj) ?_
 (repeat first|exact trivial|refine ent1 ?_)
 refine And.intro (fun j hj=>eqC_strs' [[107,101,121,95,117,112,100,97,116,101,100],[115,112,97,99,101],[116,117,114,110]] rfl hj) ?_
 (repeat first|exact trivial|refine ent1 ?_)
 refine And.intro (fun j hj=>eqC_strs' [[99,111,110,110,101,99,116,105,111,110,95,99,108,111,115,101,100],[99,111,100,101],[97,112,112],[111,119,110]] rfl hj) ?_
 (repeat first|exact trivial|refine ent1 ?_)
 refine And.intro (fun j hj=>eqC_strs' [[108,111,103,95,116,114,117,110,99,97,116,101,100]] rfl hj) ?_
 (repeat first|exact trivial|refine ent1 ?_)
 refine ⟨fun j hj=>?_,trivial⟩
 have hj:j=0∨j=1∨j=2∨j=3∨j=4∨j=5∨j=6∨j=7∨j=8∨j=9∨j=10∨j=11∨j=12∨j=13∨j=14∨j=15∨j=16∨j=17∨j=18:=by omega
 rcases hj with rfl|rfl|rfl|rfl|rfl|rfl|rfl|rfl|rfl|rfl|rfl|rfl|rfl|rfl|rfl|rfl|rfl|rfl|rfl <;> exact ⟨rfl,rfl,rfl,trivial⟩
set_option maxRecDepth 20000 in
theorem fn_many (k:BitVec 8) (hk:evOk k=true):Fn Tryd.prog tds 29 [] [.c (.w8 k)] (fun _=>True)
  (fun y hs=>y=.tup [.c (.int .i64 ((evNames k).length:Nat)),.c (.bool (evData k))]∧hs=[]):=by
 have hk2:=of_decide_eq_true hk
 have:k.toNat=1∨k.toNat=2∨k.toNat=3∨k.toNat=4∨k.toNat=5∨k.toNat=6∨k.toNat=7∨k.toNat=8∨k.toNat=9∨k.toNat=10∨k.toNat=11∨k.toNat=12∨k.toNat=13∨k.toNat=14∨k.toNat=15∨k.toNat=16∨k.toNat=17∨k.toNat=18∨k.toNat=19:=by omega
 refine fn_of_body tds_ok follows_ Tryd.func29 rfl (t:=.a (.c (.w8 k))::anys (Tryd.f29.ntmps-1)) rfl (fun w r0 hr _=>?_)
 obtain rfl:r0=[]:=List.eq_nil_of_length_eq_zero hr
 (repeat show _∧_;first|refine yr ?_|refine yt ?_|refine yf ?_|refine yo ?_)
 refine call_same fn_names [] rfl (by (repeat first|exact trivial|refine ent1 ?_)) trivial (fun _ _=>trivial) ?_
 rintro y hs' ⟨rfl,rfl⟩
 rcases this with h|h|h|h|h|h|h|h|h|h|h|h|h|h|h|h|h|h|h
 ·obtain rfl:k=1#8:=BitVec.eq_of_toNat_eq h
  (repeat show _∧_;first|refine yr ?_|refine yt ?_|refine yf ?_|refine yo ?_)
  exact ⟨.tup [.c (.int .i64 ((evNames 1#8).length:Nat)),.c (.bool (evData 1#8))],[],⟨[],⟨rfl,rfl,rfl⟩,by (repeat first|exact trivial|refine ent1 ?_)⟩,rfl,rfl⟩
 ·obtain rfl:k=2#8:=BitVec.eq_of_toNat_eq h
  (repeat show _∧_;first|refine yr ?_|refine yt ?_|refine yf ?_|refine yo ?_)
  exact ⟨.tup [.c (.int .i64 ((evNames 2#8).length:Nat)),.c (.bool (evData 2#8))],[],⟨[],⟨rfl,rfl,rfl⟩,by (repeat first|exact trivial|refine ent1 ?_)⟩,rfl,rfl⟩
 ·obtain rfl:k=3#8:=BitVec.eq_of_toNat_eq h
  (repeat show _∧_;first|refine yr ?_|refine yt ?_|refine yf ?_|refine yo ?_)
  exact ⟨.tup [.c (.int .i64 ((evNames 3#8).length:Nat)),.c (.bool (evData 3#8))],[],⟨[],⟨rfl,rfl,rfl⟩,by (repeat first|exact trivial|refine ent1 ?_)⟩,rfl,rfl⟩
 ·obtain rfl:k=4#8:=BitVec.eq_of_toNat_eq h
  (repeat show _∧_;first|refine yr ?_|refine yt ?_|refine yf ?_|refine yo ?_)
  exact ⟨.tup [.c (.int .i64 ((evNames 4#8).length:Nat)),.c (.bool (evData 4#8))],[],⟨[],⟨rfl,rfl,rfl⟩,by (repeat first|exact trivial|refine ent1 ?_)⟩,rfl,rfl⟩
 ·obtain rfl:k=5#8:=BitVec.eq_of_toNat_eq h
  (repeat show _∧_;first|refine yr ?_|refine yt ?_|refine yf ?_|refine yo ?_)
  exact ⟨.tup [.c (.int .i64 ((evNames 5#8).length:Nat)),.c (.bool (evData 5#8))],[],⟨[],⟨rfl,rfl,rfl⟩,by (repeat first|exact trivial|refine ent1 ?_)⟩,rfl,rfl⟩
 ·obtain rfl:k=6#8:=BitVec.eq_of_toNat_eq h
  (repeat show _∧_;first|refine yr ?_|refine yt ?_|refine yf ?_|refine yo ?_)
  exact ⟨.tup [.c (.int .i64 ((evNames 6#8).length:Nat)),.c (.bool (evData 6#8))],[],⟨[],⟨rfl,rfl,rfl⟩,by (repeat first|exact trivial|refine ent1 ?_)⟩,rfl,rfl⟩
 ·obtain rfl:k=7#8:=BitVec.eq_of_toNat_eq h
  (repeat show _∧_;first|refine yr ?_|refine yt ?_|refine yf ?_|refine yo ?_)
  exact ⟨.tup [.c (.int .i64 ((evNames 7#8).length:Nat)),.c (.bool (evData 7#8))],[],⟨[],⟨rfl,rfl,rfl⟩,by (repeat first|exact trivial|refine ent1 ?_)⟩,rfl,rfl⟩
 ·obtain rfl:k=8#8:=BitVec.eq_of_toNat_eq h
  (repeat show _∧_;first|refine yr ?_|refine yt ?_|refine yf ?_|refine yo ?_)
  exact ⟨.tup [.c (.int .i64 ((evNames 8#8).length:Nat)),.c (.bool (evData 8#8))],[],⟨[],⟨rfl,rfl,rfl⟩,by (repeat first|exact trivial|refine ent1 ?_)⟩,rfl,rfl⟩
 ·obtain rfl:k=9#8:=BitVec.eq_of_toNat_eq h
  (repeat show _∧_;first|refine yr ?_|refine yt ?_|refine yf ?_|refine yo ?_)
  exact ⟨.tup [.c (.int .i64 ((evNames 9#8).length:Nat)),.c (.bool (evData 9#8))],[],⟨[],⟨rfl,rfl,rfl⟩,by (repeat first|exact trivial|refine ent1 ?_)⟩,rfl,rfl⟩
 ·obtain rfl:k=10#8:=BitVec.eq_of_toNat_eq h
  (repeat show _∧_;first|refine yr ?_|refine yt ?_|refine yf ?_|refine yo ?_)
  exact ⟨.tup [.c (.int .i64 ((evNames 10#8).length:Nat)),.c (.bool (evData 10#8))],[],⟨[],⟨rfl,rfl,rfl⟩,by (repeat first|exact trivial|refine ent1 ?_)⟩,rfl,rfl⟩
 ·obtain rfl:k=11#8:=BitVec.eq_of_toNat_eq h
  (repeat show _∧_;first|refine yr ?_|refine yt ?_|refine yf ?_|refine yo ?_)
  exact ⟨.tup [.c (.int .i64 ((evNames 11#8).length:Nat)),.c (.bool (evData 11#8))],[],⟨[],⟨rfl,rfl,rfl⟩,by (repeat first|exact trivial|refine ent1 ?_)⟩,rfl,rfl⟩
 ·obtain rfl:k=12#8:=BitVec.eq_of_toNat_eq h
  (repeat show _∧_;first|refine yr ?_|refine yt ?_|refine yf ?_|refine yo ?_)
  exact ⟨.tup [.c (.int .i64 ((evNames 12#8).length:Nat)),.c (.bool (evData 12#8))],[],⟨[],⟨rfl,rfl,rfl⟩,by (repeat first|exact trivial|refine ent1 ?_)⟩,rfl,rfl⟩
 ·obtain rfl:k=13#8:=BitVec.eq_of_toNat_eq h
  (repeat show _∧_;first|refine yr ?_|refine yt ?_|refine yf ?_|refine yo ?_)
  exact ⟨.tup [.c (.int .i64 ((evNames 13#8).length:Nat)),.c (.bool (evData 13#8))],[],⟨[],⟨rfl,rfl,rfl⟩,by (repeat first|exact trivial|refine ent1 ?_)⟩,rfl,rfl⟩
 ·obtain rfl:k=14#8:=BitVec.eq_of_toNat_eq h
  (repeat show _∧_;first|refine yr ?_|refine yt ?_|refine yf ?_|refine yo ?_)
  exact ⟨.tup [.c (.int .i64 ((evNames 14#8).length:Nat)),.c (.bool (evData 14#8))],[],⟨[],⟨rfl,rfl,rfl⟩,by (repeat first|exact trivial|refine ent1 ?_)⟩,rfl,rfl⟩
 ·obtain rfl:k=15#8:=BitVec.eq_of_toNat_eq h
  (repeat show _∧_;first|refine yr ?_|refine yt ?_|refine yf ?_|refine yo ?_)
  exact ⟨.tup [.c (.int .i64 ((evNames 15#8).length:Nat)),.c (.bool (evData 15#8))],[],⟨[],⟨rfl,rfl,rfl⟩,by (repeat first|exact trivial|refine ent1 ?_)⟩,rfl,rfl⟩
 ·obtain rfl:k=16#8:=BitVec.eq_of_toNat_eq h
  (repeat show _∧_;first|refine yr ?_|refine yt ?_|refine yf ?_|refine yo ?_)
  exact ⟨.tup [.c (.int .i64 ((evNames 16#8).length:Nat)),.c (.bool (evData 16#8))],[],⟨[],⟨rfl,rfl,rfl⟩,by (repeat first|exact trivial|refine ent1 ?_)⟩,rfl,rfl⟩
 ·obtain rfl:k=17#8:=BitVec.eq_of_toNat_eq h
  (repeat show _∧_;first|refine yr ?_|refine yt ?_|refine yf ?_|refine yo ?_)
  exact ⟨.tup [.c (.int .i64 ((evNames 17#8).length:Nat)),.c (.bool (evData 17#8))],[],⟨[],⟨rfl,rfl,rfl⟩,by (repeat first|exact trivial|refine ent1 ?_)⟩,rfl,rfl⟩
 ·obtain rfl:k=18#8:=BitVec.eq_of_toNat_eq h
  (repeat show _∧_;first|refine yr ?_|refine yt ?_|refine yf ?_|refine yo ?_)
  exact ⟨.tup [.c (.int .i64 ((evNames 18#8).length:Nat)),.c (.bool (evData 18#8))],[],⟨[],⟨rfl,rfl,rfl⟩,by (repeat first|exact trivial|refine ent1 ?_)⟩,rfl,rfl⟩
 ·obtain rfl:k=19#8:=BitVec.eq_of_toNat_eq h
  (repeat show _∧_;first|refine yr ?_|refine yt ?_|refine yf ?_|refine yo ?_)
  exact ⟨.tup [.c (.int .i64 ((evNames 19#8).length:Nat)),.c (.bool (evData 19#8))],[],⟨[],⟨rfl,rfl,rfl⟩,by (repeat first|exact trivial|refine ent1 ?_)⟩,rfl,rfl⟩
end Sx
end
section
namespace Vi
open Sha
def partL (n:BitVec 64) (k j:Nat):Bs:=tab j fun i=>byteN n (k-1-i)
@[simp] theorem partL_len (n:BitVec 64) (k j:Nat):(partL n k j).length=j:=tab_len _ _
theorem L_part {n:BitVec 64} {k j i:Nat} (h:i<j):L (partL n k j) i=byteN n (k-1-i):=L_tab h
end Vi
namespace Sx
open Sha Vi

abbrev lsC (b:Bs) (c:Nat):List Seg:=[.row c (bytesF b.length (L b))]
end Sx
end
section
namespace Vi
open Sha
def putAll:List (BitVec 64)→Bs
 | []=>[]
 | n::r=>putL n++putAll r
theorem putL_len (n:BitVec 64):(putL n).length=lenN n:=wideL_len _ _
end Vi
namespace Sx
open Sha Vi

def numsF (l:List (BitVec 64)):Nat→SC:=fun j=>match l[j]? with
 | some x=>.w64 x
 | none=>.any
theorem frc_nums {l:List (BitVec 64)} {j:Nat} {x:BitVec 64} {k:SC→Prop} (h:l[j]?=some x) (hk:k (.w64 x)):frcSC (numsF l j) k:=by
 unfold numsF; rw [h]; exact hk
theorem eqC_nums {q:List Nat} {l:List (BitVec 64)} {f:Nat→SC} (h:∀ (j:Nat) (x:BitVec 64),l[j]?=some x→f j=.w64 x) (j:Nat):eqC q (f j) (numsF l j) True:=by
 unfold numsF
 cases e:l[j]? with
 | none=>trivial
 | some x=>rw [h j x e]; exact ⟨rfl,trivial⟩
theorem eqC_numsS {q:List Nat} {l:List (BitVec 64)} {j:Nat}:eqC q (numsF l j) (numsF l j) True:=eqC_nums (fun j x h=>by unfold numsF; rw [h]) j
end Sx
end
section
namespace Ev
def kindE (k:BitVec 8):BitVec 8:=1#8+k % 19#8
def padE:List (BitVec 64)→Nat→List (BitVec 64)
 | l,0=>l
 | l,k+1=>padE (l++[BitVec.ofNat 64 l.length*7#64]) k
abbrev mk62 (x:BitVec 64):BitVec 64:=x &&& 4611686018427387903#64
def fitE (e:Ev) (k:BitVec 8):Ev:=⟨kindE k,e.t % 1125899906842625#64,((padE e.N ((evNames (kindE k)).length-e.N.length)).take (evNames (kindE k)).length).map mk62,if evData (kindE k)=true then e.D.take 20 else []⟩
theorem kindE_ok (k:BitVec 8):evOk (kindE k)=true:=by revert k; decide +kernel
theorem many_le (k:BitVec 8):(evNames k).length≤8:=by revert k; decide +kernel
def mskN (i:Nat) (P:List (BitVec 64)):List (BitVec 64):=(P.take i).map mk62++P.drop i
theorem mskN_len (i:Nat) (P:List (BitVec 64)):(mskN i P).length=P.length:=by
 unfold mskN; simp only [List.length_append,List.length_map,List.length_take,List.length_drop]; omega
theorem mskN_get {i j:Nat} {P:List (BitVec 64)} {x:BitVec 64} (h:P[j]?=some x):(mskN i P)[j]?=some (if j<i then mk62 x else x):=by
 have hj:=(List.getElem?_eq_some_iff.1 h).1
 unfold mskN
 by_cases hi:j<i
 ·rw [List.getElem?_append_left (by simp only [List.length_map,List.length_take]; omega),List.getElem?_map,List.getElem?_take,if_pos hi,h,if_pos hi]; rfl
 ·rw [List.getElem?_append_right (by simp only [List.length_map,List.length_take]; omega),List.getElem?_drop,if_neg hi]
  simp only [List.length_map,List.length_take]
  rw [show i+(j-min i P.length)=j by omega,h]
theorem padE_len:∀ (k:Nat) (l:List (BitVec 64)),(padE l k).length=l.length+k
 | 0,l=>rfl
 | k+1,l=>by rw [padE,padE_len k]; simp; omega
end Ev
namespace Sx
open Go.RowKit Sha Vi Ev

theorem nums_get {l:List (BitVec 64)} {j:Nat} {x:BitVec 64} (h:l[j]?=some x):numsF l j=.w64 x:=by unfold numsF; rw [h]
theorem eqC_newN {q:List Nat} {l:List (BitVec 64)} {n:Nat} (hn:l.length=n) {j:Nat}:eqC q (newF (scale n (0+1)) (nthC (l.map .w64)) j) (numsF l j) True :=
 eqC_nums (f:=fun j=>newF (scale n (0+1)) (nthC (l.map .w64)) j) (fun j x h=>newR (by simp [hn]) (by decide) j _ (map_get? h)) j
theorem eqC_newB {q:List Nat} {l:Bs} {n:Nat} (hn:l.length=n) {j:Nat}:eqC q (newF (scale n (0+1)) (nthC (l.map .w8)) j) (bytesF l.length (L l) j) True :=
 eqC_bytes (f:=fun j=>newF (scale n (0+1)) (nthC (l.map .w8)) j) (fun j h=>newR (by simp [hn]) (by decide) j _ (map_get? (by rw [List.getElem?_eq_getElem h,L_lt h]))) j
theorem bytes_get {l:Bs} {n j:Nat} {x:BitVec 8} (h:l[j]?=some x) (hn:l.length≤n) (M:Bs) (hM:M.length=n) (hl:∀ i,i<l.length→L M i=L l i):bytesF n (L M) j=.w8 x:=by
 have hj:=(List.getElem?_eq_some_iff.1 h).1
 rw [bytesF_lt (by omega),hl j hj,L_lt hj]
 rw [List.getElem?_eq_getElem hj] at h
 injection h with h
 rw [h]
set_option maxRecDepth 20000 in
set_option maxHeartbeats 8000000 in
theorem fn_ecl00 {W:World} {ms:List Nat} {x:EvC} {e:Ev} (h:EvAt W ms x e) (hn:e.N.length≤1000000) (hd:e.D.length≤1000000) (hz:e.N.length=0) (hy:e.D.length=0):FnR Tryd.prog tds 28 1 [[.past W ms]] [.agg (evS e x)] (fun _=>True)
  (fun y hs=>y=.a (.agg [.one (.w8 e.k),.one (.w64 e.t),.one (.slc none 0 0),.one (.slc none 0 0)])∧hs=[[.past W ms]]):=by
 have hN:=h.N
 have hD:=h.D
 have hn1:=h.nN
 have hn2:=h.nD
 obtain ⟨aN,nN,cN,aD,nD,cD⟩:=x
 dsimp only at hN hD hn1 hn2
 subst hn1; subst hn2
 refine fn_of_body tds_ok follows_ Tryd.func28 rfl (t:=.a (.agg (evS e ⟨aN,e.N.length,cN,aD,e.D.length,cD⟩))::anys (Tryd.f28.ntmps-1)) rfl (fun w r0 hr _=>?_)
 obtain ⟨x0,rfl⟩:=List.length_eq_one_iff.1 hr
 cases aN with
 | none =>
  (repeat show _∧_;first|refine yr ?_|refine yt ?_|refine yf ?_|refine yo ?_)
  cases aD with
  | none =>
   (repeat show _∧_;first|refine yr ?_|refine yt ?_|refine yf ?_|refine yo ?_)
   refine ⟨.a (.agg [.one (.w8 e.k),.one (.w64 e.t),.one (.slc none 0 0),.one (.slc none 0 0)]),[[.past W ms]],⟨[0],⟨rfl,rfl,rfl⟩,?_⟩,rfl,rfl⟩
   (repeat first|exact trivial|refine ent1 ?_)
  | some AD =>
   (repeat show _∧_;first|refine yr ?_|refine yt ?_|refine yf ?_|refine yo ?_)
   refine srcR (i:=0) (by rfl) hD ?_
   (repeat show _∧_;first|refine yr ?_|refine yt ?_|refine yf ?_|refine yo ?_)
   refine And.intro (show e.D.length*1≤140737488355328 by omega) ?_
   refine And.intro (fun _=>?_) (fun h0=>absurd h0 (show ¬ 0<e.D.length by omega))
   (repeat show _∧_;first|refine yr ?_|refine yt ?_|refine yf ?_|refine yo ?_)
   refine ⟨.a (.agg [.one (.w8 e.k),.one (.w64 e.t),.one (.slc none 0 0),.one (.slc none 0 0)]),[[.past W ms]],⟨[0],⟨rfl,rfl,rfl⟩,?_⟩,rfl,rfl⟩
   (repeat first|exact trivial|refine ent1 ?_)
 | some AN =>
  (repeat show _∧_;first|refine yr ?_|refine yt ?_|refine yf ?_|refine yo ?_)
  refine srcR (i:=0) (by rfl) hN ?_
  (repeat show _∧_;first|refine yr ?_|refine yt ?_|refine yf ?_|refine yo ?_)
  refine And.intro (show e.N.length*8≤140737488355328 by omega) ?_
  refine And.intro (fun _=>?_) (fun h0=>absurd h0 (show ¬ 0<e.N.length by omega))
  (repeat show _∧_;first|refine yr ?_|refine yt ?_|refine yf ?_|refine yo ?_)
  cases aD with
  | none =>
   (repeat show _∧_;first|refine yr ?_|refine yt ?_|refine yf ?_|refine yo ?_)
   refine ⟨.a (.agg [.one (.w8 e.k),.one (.w64 e.t),.one (.slc none 0 0),.one (.slc none 0 0)]),[[.past W ms]],⟨[0],⟨rfl,rfl,rfl⟩,?_⟩,rfl,rfl⟩
   (repeat first|exact trivial|refine ent1 ?_)
  | some AD =>
   (repeat show _∧_;first|refine yr ?_|refine yt ?_|refine yf ?_|refine yo ?_)
   refine srcR (i:=0) (by rfl) hD ?_
   (repeat show _∧_;first|refine yr ?_|refine yt ?_|refine yf ?_|refine yo ?_)
   refine And.intro (show e.D.length*1≤140737488355328 by omega) ?_
   refine And.intro (fun _=>?_) (fun h0=>absurd h0 (show ¬ 0<e.D.length by omega))
   (repeat show _∧_;first|refine yr ?_|refine yt ?_|refine yf ?_|refine yo ?_)
   refine ⟨.a (.agg [.one (.w8 e.k),.one (.w64 e.t),.one (.slc none 0 0),.one (.slc none 0 0)]),[[.past W ms]],⟨[0],⟨rfl,rfl,rfl⟩,?_⟩,rfl,rfl⟩
   (repeat first|exact trivial|refine ent1 ?_)
set_option maxRecDepth 20000 in
set_option maxHeartbeats 8000000 in
theorem fn_ecl01 {W:World} {ms:List Nat} {x:EvC} {e:Ev} (h:EvAt W ms x e) (hn:e.N.length≤1000000) (hd:e.D.length≤1000000) (hz:e.N.length=0) (hy:0<e.D.length):FnR Tryd.prog tds 28 1 [[.past W ms]] [.agg (evS e x)] (fun _=>True)
  (fun y hs=>∃ c2:Nat,e.D.length≤c2∧y=.a (.agg [.one (.w8 e.k),.one (.w64 e.t),.one (.slc none 0 0),.one (.sl 1 0 0 e.D.length c2)])∧hs=[[.past W ms],lsC e.D c2]):=by
 have hN:=h.N
 have hD:=h.D
 have hn1:=h.nN
 have hn2:=h.nD
 obtain ⟨aN,nN,cN,aD,nD,cD⟩:=x
 dsimp only at hN hD hn1 hn2
 subst hn1; subst hn2
 refine fn_of_body tds_ok follows_ Tryd.func28 rfl (t:=.a (.agg (evS e ⟨aN,e.N.length,cN,aD,e.D.length,cD⟩))::anys (Tryd.f28.ntmps-1)) rfl (fun w r0 hr _=>?_)
 obtain ⟨x0,rfl⟩:=List.length_eq_one_iff.1 hr
 cases aN with
 | none =>
  (repeat show _∧_;first|refine yr ?_|refine yt ?_|refine yf ?_|refine yo ?_)
  cases aD with
  | none=>have:=hD.nil_.1; omega
  | some AD =>
  (repeat show _∧_;first|refine yr ?_|refine yt ?_|refine yf ?_|refine yo ?_)
  refine srcR (i:=0) (by rfl) hD ?_
  (repeat show _∧_;first|refine yr ?_|refine yt ?_|refine yf ?_|refine yo ?_)
  refine And.intro (show e.D.length*1≤140737488355328 by omega) ?_
  refine And.intro (fun h0=>absurd h0 (show ¬ e.D.length=0 by omega)) (fun h0 c2 hc2=>?_)
  (repeat show _∧_;first|refine yr ?_|refine yt ?_|refine yf ?_|refine yo ?_)
  refine ⟨.a (.agg [.one (.w8 e.k),.one (.w64 e.t),.one (.slc none 0 0),.one (.sl 1 0 0 e.D.length c2)]),[[.past W ms],lsC e.D c2],⟨[0,3],⟨rfl,rfl,rfl⟩,?_⟩,c2,hc2,rfl,rfl⟩
  (repeat first|exact trivial|refine ent1 ?_)
  exact ⟨fun j hj=>eqC_newB rfl,by (repeat first|exact trivial|refine ent1 ?_)⟩
 | some AN =>
  (repeat show _∧_;first|refine yr ?_|refine yt ?_|refine yf ?_|refine yo ?_)
  refine srcR (i:=0) (by rfl) hN ?_
  (repeat show _∧_;first|refine yr ?_|refine yt ?_|refine yf ?_|refine yo ?_)
  refine And.intro (show e.N.length*8≤140737488355328 by omega) ?_
  refine And.intro (fun _=>?_) (fun h0=>absurd h0 (show ¬ 0<e.N.length by omega))
  (repeat show _∧_;first|refine yr ?_|refine yt ?_|refine yf ?_|refine yo ?_)
  cases aD with
  | none=>have:=hD.nil_.1; omega
  | some AD =>
  (repeat show _∧_;first|refine yr ?_|refine yt ?_|refine yf ?_|refine yo ?_)
  refine srcR (i:=0) (by rfl) hD ?_
  (repeat show _∧_;first|refine yr ?_|refine yt ?_|refine yf ?_|refine yo ?_)
  refine And.intro (show e.D.length*1≤140737488355328 by omega) ?_
  refine And.intro (fun h0=>absurd h0 (show ¬ e.D.length=0 by omega)) (fun h0 c2 hc2=>?_)
  (repeat show _∧_;first|refine yr ?_|refine yt ?_|refine yf ?_|refine yo ?_)
  refine ⟨.a (.agg [.one (.w8 e.k),.one (.w64 e.t),.one (.slc none 0 0),.one (.sl 1 0 0 e.D.length c2)]),[[.past W ms],lsC e.D c2],⟨[0,3],⟨rfl,rfl,rfl⟩,?_⟩,c2,hc2,rfl,rfl⟩
  (repeat first|exact trivial|refine ent1 ?_)
  exact ⟨fun j hj=>eqC_newB rfl,by (repeat first|exact trivial|refine ent1 ?_)⟩
set_option maxRecDepth 20000 in
set_option maxHeartbeats 8000000 in
theorem fn_ecl10 {W:World} {ms:List Nat} {x:EvC} {e:Ev} (h:EvAt W ms x e) (hn:e.N.length≤1000000) (hd:e.D.length≤1000000) (hz:0<e.N.length) (hy:e.D.length=0):FnR Tryd.prog tds 28 1 [[.past W ms]] [.agg (evS e x)] (fun _=>True)
  (fun y hs=>∃ c1:Nat,e.N.length≤c1∧y=.a (.agg [.one (.w8 e.k),.one (.w64 e.t),.one (.sl 1 0 0 e.N.length c1),.one (.slc none 0 0)])∧hs=[[.past W ms],[.row c1 (numsF e.N)]]):=by
 have hN:=h.N
 have hD:=h.D
 have hn1:=h.nN
 have hn2:=h.nD
 obtain ⟨aN,nN,cN,aD,nD,cD⟩:=x
 dsimp only at hN hD hn1 hn2
 subst hn1; subst hn2
 refine fn_of_body tds_ok follows_ Tryd.func28 rfl (t:=.a (.agg (evS e ⟨aN,e.N.length,cN,aD,e.D.length,cD⟩))::anys (Tryd.f28.ntmps-1)) rfl (fun w r0 hr _=>?_)
 obtain ⟨x0,rfl⟩:=List.length_eq_one_iff.1 hr
 cases aN with
 | none=>have:=hN.nil_.1; omega
 | some AN =>
 (repeat show _∧_;first|refine yr ?_|refine yt ?_|refine yf ?_|refine yo ?_)
 refine srcR (i:=0) (by rfl) hN ?_
 (repeat show _∧_;first|refine yr ?_|refine yt ?_|refine yf ?_|refine yo ?_)
 refine And.intro (show e.N.length*8≤140737488355328 by omega) ?_
 refine And.intro (fun h0=>absurd h0 (show ¬ e.N.length=0 by omega)) (fun h0 c1 hc1=>?_)
 (repeat show _∧_;first|refine yr ?_|refine yt ?_|refine yf ?_|refine yo ?_)
 cases aD with
 | none =>
  (repeat show _∧_;first|refine yr ?_|refine yt ?_|refine yf ?_|refine yo ?_)
  refine ⟨.a (.agg [.one (.w8 e.k),.one (.w64 e.t),.one (.sl 1 0 0 e.N.length c1),.one (.slc none 0 0)]),[[.past W ms],[.row c1 (numsF e.N)]],⟨[0,3],⟨rfl,rfl,rfl⟩,?_⟩,c1,hc1,rfl,rfl⟩
  (repeat first|exact trivial|refine ent1 ?_)
  refine ⟨fun j hj=>eqC_newN rfl,?_⟩
  (repeat first|exact trivial|refine ent1 ?_)
 | some AD =>
  (repeat show _∧_;first|refine yr ?_|refine yt ?_|refine yf ?_|refine yo ?_)
  refine srcR (i:=0) (by rfl) hD ?_
  (repeat show _∧_;first|refine yr ?_|refine yt ?_|refine yf ?_|refine yo ?_)
  refine And.intro (show e.D.length*1≤140737488355328 by omega) ?_
  refine And.intro (fun _=>?_) (fun h0=>absurd h0 (show ¬ 0<e.D.length by omega))
  (repeat show _∧_;first|refine yr ?_|refine yt ?_|refine yf ?_|refine yo ?_)
  refine ⟨.a (.agg [.one (.w8 e.k),.one (.w64 e.t),.one (.sl 1 0 0 e.N.length c1),.one (.slc none 0 0)]),[[.past W ms],[.row c1 (numsF e.N)]],⟨[0,3],⟨rfl,rfl,rfl⟩,?_⟩,c1,hc1,rfl,rfl⟩
  (repeat first|exact trivial|refine ent1 ?_)
  refine ⟨fun j hj=>eqC_newN rfl,?_⟩
  (repeat first|exact trivial|refine ent1 ?_)
set_option maxRecDepth 20000 in
set_option maxHeartbeats 8000000 in
theorem fn_ecl11 {W:World} {ms:List Nat} {x:EvC} {e:Ev} (h:EvAt W ms x e) (hn:e.N.length≤1000000) (hd:e.D.length≤1000000) (hz:0<e.N.length) (hy:0<e.D.length):FnR Tryd.prog tds 28 1 [[.past W ms]] [.agg (evS e x)] (fun _=>True)
  (fun y hs=>∃ c1 c2:Nat,e.N.length≤c1∧e.D.length≤c2∧y=.a (.agg [.one (.w8 e.k),.one (.w64 e.t),.one (.sl 1 0 0 e.N.length c1),.one (.sl 2 0 0 e.D.length c2)])∧hs=[[.past W ms],[.row c1 (numsF e.N)],lsC e.D c2]):=by
 have hN:=h.N
 have hD:=h.D
 have hn1:=h.nN
 have hn2:=h.nD
 obtain ⟨aN,nN,cN,aD,nD,cD⟩:=x
 dsimp only at hN hD hn1 hn2
 subst hn1; subst hn2
 refine fn_of_body tds_ok follows_ Tryd.func28 rfl (t:=.a (.agg (evS e ⟨aN,e.N.length,cN,aD,e.D.length,cD⟩))::anys (Tryd.f28.ntmps-1)) rfl (fun w r0 hr _=>?_)
 obtain ⟨x0,rfl⟩:=List.length_eq_one_iff.1 hr
 cases aN with
 | none=>have:=hN.nil_.1; omega
 | some AN =>
 (repeat show _∧_;first|refine yr ?_|refine yt ?_|refine yf ?_|refine yo ?_)
 refine srcR (i:=0) (by rfl) hN ?_
 (repeat show _∧_;first|refine yr ?_|refine yt ?_|refine yf ?_|refine yo ?_)
 refine And.intro (show e.N.length*8≤140737488355328 by omega) ?_
 refine And.intro (fun h0=>absurd h0 (show ¬ e.N.length=0 by omega)) (fun h0 c1 hc1=>?_)
 (repeat show _∧_;first|refine yr ?_|refine yt ?_|refine yf ?_|refine yo ?_)
 cases aD with
 | none=>have:=hD.nil_.1; omega
 | some AD =>
 (repeat show _∧_;first|refine yr ?_|refine yt ?_|refine yf ?_|refine yo ?_)
 refine srcR (i:=0) (by rfl) hD ?_
 (repeat show _∧_;first|refine yr ?_|refine yt ?_|refine yf ?_|refine yo ?_)
 refine And.intro (show e.D.length*1≤140737488355328 by omega) ?_
 refine And.intro (fun h0=>absurd h0 (show ¬ e.D.length=0 by omega)) (fun h0 c2 hc2=>?_)
 (repeat show _∧_;first|refine yr ?_|refine yt ?_|refine yf ?_|refine yo ?_)
 refine ⟨.a (.agg [.one (.w8 e.k),.one (.w64 e.t),.one (.sl 1 0 0 e.N.length c1),.one (.sl 2 0 0 e.D.length c2)]),[[.past W ms],[.row c1 (numsF e.N)],lsC e.D c2],⟨[0,3,4],⟨rfl,rfl,rfl⟩,?_⟩,c1,c2,hc1,hc2,rfl,rfl⟩
 (repeat first|exact trivial|refine ent1 ?_)
 refine ⟨fun j hj=>eqC_newN rfl,?_⟩
 (repeat first|exact trivial|refine ent1 ?_)
 exact ⟨fun j hj=>eqC_newB rfl,by (repeat first|exact trivial|refine ent1 ?_)⟩
end Sx
end
section
namespace Sx
open Go.RowKit Sha Vi Ev

theorem eqC_numsM' {q:List Nat} {g:Nat→Nat} {l:List (BitVec 64)} {j:Nat}:eqC q (SC.mp g (numsF l j)) (numsF l j) True :=
 eqC_nums (f:=fun j=>SC.mp g (numsF l j)) (fun j x h=>by unfold numsF; rw [h]; rfl) j
theorem mskN_zero (P:List (BitVec 64)):mskN 0 P=P:=by simp [mskN]
theorem app_nums {P:List (BitVec 64)} {v:BitVec 64} {n:Nat} (hn:P.length=n) {f g:Nat→SC} (hf:∀ j x,P[j]?=some x→f j=.w64 x) (hg:g 0=.w64 v) (j:Nat) (x:BitVec 64) (h:(P++[v])[j]?=some x):appF f 0 (scale n (0+1)) (scale 1 (0+1)) g j=.w64 x:=by
 have e1:scale n (0+1)=n:=by rw [scale_eq,Nat.zero_add,Nat.mul_one]
 have e2:scale 1 (0+1)=1:=by rw [scale_eq]
 unfold appF
 rw [e1,e2]
 by_cases hj:j<n
 ·rw [if_pos hj,Nat.add_zero]
  rw [List.getElem?_append_left (by omega)] at h
  exact hf j x h
 ·rw [List.getElem?_append_right (by omega)] at h
  have hj0:j-P.length=0:=by
   rcases Nat.eq_zero_or_pos (j-P.length) with h1|h1
   ·exact h1
   ·rw [List.getElem?_eq_none (by simp; omega)] at h; cases h
  rw [hj0] at h
  injection h with h
  subst h
  rw [if_neg hj,if_pos (by omega),show j-n=0 by omega,hg]
theorem new_nums {v:BitVec 64} {g:Nat→SC} (hg:g 0=.w64 v) (j:Nat) (x:BitVec 64) (h:[v][j]?=some x):newF (scale 1 (0+1)) g j=.w64 x:=by
 have e2:scale 1 (0+1)=1:=by rw [scale_eq]
 cases j with
 | zero=>simp at h; subst h; unfold newF; rw [e2,if_pos (by decide),hg]
 | succ j=>simp at h
theorem padE_step {P:List (BitVec 64)} {m:Nat} (h:P.length<m):padE P (m-P.length)=padE (P++[BitVec.ofNat 64 P.length*7#64]) (m-(P++[BitVec.ofNat 64 P.length*7#64]).length):=by
 obtain ⟨k,hk⟩:∃ k,m-P.length=k+1:=⟨m-P.length-1,by omega⟩
 rw [hk,padE,List.length_append,List.length_singleton,show m-(P.length+1)=k by omega]
theorem padE_done {P:List (BitVec 64)} {m:Nat} (h:m≤P.length):padE P (m-P.length)=P:=by
 rw [show m-P.length=0 by omega]; rfl
theorem msk_step {i:Nat} {P:List (BitVec 64)} {y:BitVec 64} (hy:P[i]?=some y) (j:Nat) (x:BitVec 64) (h:(mskN (i+1) P)[j]?=some x):upd (numsF (mskN i P)) i (.w64 (mk62 y)) j=.w64 x:=by
 have hj:j<P.length:=by
  have:=(List.getElem?_eq_some_iff.1 h).1
  rwa [mskN_len] at this
 have hp:P[j]?=some P[j]:=List.getElem?_eq_getElem hj
 rw [mskN_get hp] at h
 injection h with h
 unfold upd
 by_cases hji:j=i
 ·subst hji
  rw [if_pos rfl]
  rw [hp] at hy
  injection hy with hy
  rw [if_pos (by omega)] at h
  rw [← h,← hy]
 ·rw [if_neg hji]
  refine nums_get ?_
  rw [mskN_get hp]
  congr 1
  rw [← h]
  by_cases hlt:j<i
  ·rw [if_pos hlt,if_pos (by omega)]
  ·rw [if_neg hlt,if_neg (by omega)]
theorem take_fin {D:Bs} (j:Nat) (x:SC) (h:((D.take 20).map SC.w8)[j]?=some x):bytesF D.length (L D) j=x:=by
 rw [List.getElem?_map,Option.map_eq_some_iff] at h
 obtain ⟨b,hb,rfl⟩:=h
 exact bytes_get hb (by rw [List.length_take]; omega) D rfl (fun i hi=>by rw [L_take _ _ _ (by rw [List.length_take] at hi; omega)])
theorem mask_fin {P:List (BitVec 64)} {m:Nat} (j:Nat) (x:SC) (h:(((P.take m).map mk62).map SC.w64)[j]?=some x):numsF (mskN m P) j=x:=by
 rw [List.getElem?_map,Option.map_eq_some_iff] at h
 obtain ⟨b,hb,rfl⟩:=h
 rw [List.getElem?_map,Option.map_eq_some_iff] at hb
 obtain ⟨a,ha,rfl⟩:=hb
 rw [List.getElem?_take] at ha
 split at ha
 ·rename_i hj
  refine nums_get ?_
  rw [mskN_get ha,if_pos hj]
 ·cases ha
set_option maxRecDepth 20000 in
set_option maxHeartbeats 16000000 in
theorem fn_efit11 {W:World} {ms:List Nat} {x:EvC} {e:Ev} (h:EvAt W ms x e) (hn:e.N.length≤1000) (hd:e.D.length≤1000) (hz:0<e.N.length) (hy:0<e.D.length) (k:BitVec 8):FnR Tryd.prog tds 11 1 [[.past W ms]] [.agg (evS e x),.c (.w8 k)] (fun _=>True)
  (fun y hs=>∃ W' ms' x',Later W ms W' ms'∧EvAt W' ms' x' (fitE e k)∧y=.a (.agg (evS (fitE e k) x'))∧hs=[[.past W' ms']]):=by
 refine fn_of_bodyW tds_ok follows_ Tryd.func11 rfl (t:=.a (.agg (evS e x))::.a (.c (.w8 k))::anys (Tryd.f11.ntmps-2)) rfl (fun w r0 hr _=>?_)
 obtain ⟨x0,rfl⟩:=List.length_eq_one_iff.1 hr
 have hm8:=many_le (kindE k)
 (repeat show _∧_;first|refine yr ?_|refine yt ?_|refine yf ?_|refine yo ?_)
 refine call_same (fn_ecl11 h (by omega) (by omega) hz hy) [0] rfl (by (repeat first|exact trivial|refine ent1 ?_)) (by (repeat first|exact trivial|refine ent1 ?_)) (fun _ _=>trivial) ?_
 rintro y hs' ⟨c1,c2,hc1,hc2,rfl,rfl⟩
 (repeat show _∧_;first|refine yr ?_|refine yt ?_|refine yf ?_|refine yo ?_)
 refine call_same (fn_many (kindE k) (kindE_ok k)) [] rfl (by (repeat first|exact trivial|refine ent1 ?_)) trivial (fun _ _=>trivial) ?_
 rintro y hs' ⟨rfl,rfl⟩
 (repeat show _∧_;first|refine yr ?_|refine yt ?_|refine yf ?_|refine yo ?_)
 refine .inl ⟨List (BitVec 64) × Nat,fun (P,c)=>⟨[.any,.a (.c (.w8 (k))),.a (.c (.p 1 0 0)),.any,.a (.c (.p 2 0 0)),.a (.c (.int .i64 (↑(evNames (kindE k)).length))),.a (.c (.bool ((evData (kindE k))))),.any,.any,.any,.any,.any,.any,.any,.any,.any,.any,.any,.any,.any,.any,.any,.any,.any,.any,.any,.any,.any,.any,.any,.any,.any,.any,.any,.any,.any,.any,.any,.any,.any,.any,.any,.any,.any,.any,.any,.any,.any,.any,.any,.any,.any,.any,.any,.any,.any,.any,.any,.any,.any,.any,.any,.any,.any,.any,.any,.any,.any,.any,.any],[[.past W ms],[.one (.w8 (kindE k)),.one (.w64 (e.t % 1125899906842625#64)),.one (.sl 4 0 0 P.length c),.one (.sl 3 0 0 e.D.length c2)],[.one (.w8 0),.one (.w64 0),.one (.slc none 0 0),.one (.slc none 0 0)],lsC e.D c2,[.row c (numsF P)]]⟩,fun (P,c)=>P.length≤c∧P.length≤1100∧padE P ((evNames (kindE k)).length-P.length)=padE e.N ((evNames (kindE k)).length-e.N.length),fun (P,c)=>(evNames (kindE k)).length-P.length,⟨(e.N,c1),[0,1,2,4,3],⟨⟨rfl,rfl,rfl⟩,?_⟩,hc1,by omega,rfl⟩,fun (P,c) ⟨h1,h2,h3⟩=>?_⟩
 ·(repeat first|exact trivial|refine ent1 ?_)
  exact ⟨fun j hj=>eqC_numsM',by (repeat first|exact trivial|refine ent1 ?_)⟩
 refine And.intro (fun hlt=>?_) (fun hge=>?_)
 ·have hlt:P.length<(evNames (kindE k)).length:=by have:(P.length:Int)<((evNames (kindE k)).length:Int):=of_decide_eq_true hlt; omega
  (repeat show _∧_;first|refine yr ?_|refine yt ?_|refine yf ?_|refine yo ?_)
  refine And.intro ⟨h1,by first|omega|(simp only [scale_eq]; omega),show (P.length+1)*8≤140737488355328 by omega⟩ ?_
  intro c' hc'
  (repeat show _∧_;first|refine yr ?_|refine yt ?_|refine yf ?_|refine yo ?_)
  refine ⟨(P++[BitVec.ofNat 64 P.length*7#64],c'),[0,1,2,3,6],⟨⟨rfl,rfl,rfl⟩,?_⟩,⟨by rw [List.length_append,List.length_singleton]; exact hc',by rw [List.length_append,List.length_singleton]; omega,by rw [← h3]; exact (padE_step hlt).symm⟩,by dsimp only; rw [List.length_append,List.length_singleton]; omega⟩
  (repeat first|exact trivial|refine ent1 ?_)
  refine ⟨by rw [List.length_append,List.length_singleton],?_⟩
  (repeat first|exact trivial|refine ent1 ?_)
  exact ⟨fun j hj=>eqC_nums (app_nums rfl (fun j x h=>nums_get h) (congrArg SC.w64 (by rw [BitVec.ofInt_natCast]))) j,by (repeat first|exact trivial|refine ent1 ?_)⟩
 ·have hge:(evNames (kindE k)).length≤P.length:=by have:¬ (P.length:Int)<((evNames (kindE k)).length:Int):=of_decide_eq_false hge; omega
  rw [padE_done hge] at h3
  have hT:((padE e.N ((evNames (kindE k)).length-e.N.length)).take (evNames (kindE k)).length).map mk62=(P.take (evNames (kindE k)).length).map mk62:=by rw [← h3]
  have hTl:((P.take (evNames (kindE k)).length).map mk62).length=(evNames (kindE k)).length:=by simp only [List.length_map,List.length_take]; omega
  refine And.intro (show (0:Int)≤0∧(0:Int)≤((evNames (kindE k)).length:Int)∧((evNames (kindE k)).length:Int)≤(c:Int) by omega) ?_
  refine frcN_of (m:=0) rfl ?_
  refine frcN_of (m:=(evNames (kindE k)).length) (by omega) ?_
  refine frcN_of (m:=0) (by split <;> omega) ?_
  refine frcN_of (m:=(evNames (kindE k)).length) (by omega) ?_
  refine frcN_of (m:=c) (by omega) ?_
  (repeat show _∧_;first|refine yr ?_|refine yt ?_|refine yf ?_|refine yo ?_)
  refine .inl ⟨Nat,fun i=>⟨[.any,.a (.c (.w8 (k))),.a (.c (.p 1 0 0)),.any,.a (.c (.p 2 0 0)),.a (.c (.int .i64 (↑(evNames (kindE k)).length))),.a (.c (.bool ((evData (kindE k))))),.any,.any,.any,.any,.any,.any,.any,.any,.any,.any,.any,.any,.any,.any,.any,.any,.any,.any,.any,.any,.any,.any,.any,.any,.any,.any,.any,.any,.any,.any,.any,.any,.any,.any,.any,.any,.any,.any,.any,.a (.c (.int .i64 (↑(evNames (kindE k)).length))),.a (.c (.int .i64 (↑i))),.any,.any,.any,.any,.any,.any,.any,.any,.any,.any,.any,.any,.any,.any,.any,.any,.any,.any,.any,.any,.any,.any],[[.past W ms],[.one (.w8 (kindE k)),.one (.w64 (e.t % 1125899906842625#64)),.one (.sl 4 0 0 (evNames (kindE k)).length c),.one (.sl 3 0 0 e.D.length c2)],[.one (.w8 0),.one (.w64 0),.one (.slc none 0 0),.one (.slc none 0 0)],lsC e.D c2,[.row c (numsF (mskN i P))]]⟩,fun i=>i≤(evNames (kindE k)).length,fun i=>(evNames (kindE k)).length-i,⟨0,[0,1,2,3,4],⟨⟨rfl,rfl,rfl⟩,?_⟩,Nat.zero_le _⟩,fun i hi=>And.intro (fun hlt=>?_) (fun hge2=>?_)⟩
  ·(repeat first|exact trivial|refine ent1 ?_)
   exact ⟨fun j hj=>by rw [mskN_zero]; exact eqC_numsS,by (repeat first|exact trivial|refine ent1 ?_)⟩
  ·have hlt:i<(evNames (kindE k)).length:=by have:(i:Int)<((evNames (kindE k)).length:Int):=of_decide_eq_true hlt; omega
   obtain ⟨y,hy⟩:∃ y,P[i]?=some y:=⟨_,List.getElem?_eq_getElem (by omega)⟩
   have hmy:(mskN i P)[(i:Int).toNat+0]?=some y:=by rw [show (i:Int).toNat+0=i by omega,mskN_get hy,if_neg (by omega)]
   refine And.intro (show (0:Int)≤(i:Int)∧(i:Int)<((evNames (kindE k)).length:Int) by omega) ?_
   refine And.intro (show (i:Int).toNat+0<c by omega) ?_
   refine frc_nums hmy ?_
   refine And.intro (show (0:Int)≤(i:Int)∧(i:Int)<((evNames (kindE k)).length:Int) by omega) ?_
   refine And.intro (show (i:Int).toNat+0<c by omega) ?_
   (repeat show _∧_;first|refine yr ?_|refine yt ?_|refine yf ?_|refine yo ?_)
   refine ⟨i+1,[0,1,2,3,4],⟨⟨rfl,rfl,rfl⟩,?_⟩,by omega,by dsimp only; omega⟩
   (repeat first|exact trivial|refine ent1 ?_)
   exact ⟨fun j hj=>eqC_nums (fun j x h=>by rw [show (i:Int).toNat+0=i by omega]; exact msk_step hy j x h) j,by (repeat first|exact trivial|refine ent1 ?_)⟩
  ·obtain rfl:i=(evNames (kindE k)).length:=by have:¬ (i:Int)<((evNames (kindE k)).length:Int):=of_decide_eq_false hge2; omega
   (repeat show _∧_;first|refine yr ?_|refine yt ?_|refine yf ?_|refine yo ?_)
   cases hdt:evData (kindE k)
   ·refine And.intro (fun _=>?_) (fun h=>absurd h (by decide))
    (repeat show _∧_;first|refine yr ?_|refine yt ?_|refine yf ?_|refine yo ?_)
    have hDD:(if evData (kindE k)=true then e.D.take 20 else [])=[]:=by rw [hdt]; rfl
    refine finW_frz [0] rfl (Nat.zero_lt_one) cx0_m rfl (fun W' ms' α hL hI=>?_)
    have hfe:fitE e k=⟨kindE k,e.t % 1125899906842625#64,((padE e.N ((evNames (kindE k)).length-e.N.length)).take (evNames (kindE k)).length).map mk62,if evData (kindE k)=true then e.D.take 20 else []⟩:=rfl
    refine ⟨.a (.agg (evS (fitE e k) ⟨some ((α 4).add (0+0)),(evNames (kindE k)).length,c,none,0,0⟩)),[],⟨⟨rfl,rfl,rfl⟩,?_⟩,W',ms',⟨some ((α 4).add (0+0)),(evNames (kindE k)).length,c,none,0,0⟩,hL,⟨(by rw [show (fitE e k).N=_ from hT]; exact SlAt.frz (F:=fun j=>!memB j [0]) (hI 4 rfl) rfl (show (evNames (kindE k)).length≤c by omega) (show (evNames (kindE k)).length≤9223372036854775807 by omega) (by decide) (by rw [List.length_map,hTl,Nat.mul_one]) mask_fin (rz_w64 _)),(by rw [show (fitE e k).D=[] from hDD]; exact SlAt.nul)⟩,rfl,rfl⟩
    (repeat first|exact trivial|refine ent1 ?_)
   ·refine And.intro (fun h=>absurd h (by decide)) (fun _=>?_)
    have hmin:(if (20:Int)<(e.D.length:Int) then (20:Int) else (e.D.length:Int))=((e.D.take 20).length:Int):=by rw [List.length_take]; split <;> omega
    have hmle:(e.D.take 20).length≤c2:=by rw [List.length_take]; omega
    refine And.intro (show (0:Int)≤0∧(0:Int)≤(if (20:Int)<(e.D.length:Int) then (20:Int) else (e.D.length:Int))∧(if (20:Int)<(e.D.length:Int) then (20:Int) else (e.D.length:Int))≤(c2:Int) by rw [hmin]; omega) ?_
    refine frcN_of (m:=0) rfl ?_
    refine frcN_of (m:=(e.D.take 20).length) (by rw [hmin]; rfl) ?_
    refine frcN_of (m:=0) (by split <;> omega) ?_
    refine frcN_of (m:=(e.D.take 20).length) (by omega) ?_
    refine frcN_of (m:=c2) (by omega) ?_
    (repeat show _∧_;first|refine yr ?_|refine yt ?_|refine yf ?_|refine yo ?_)
    have hDD:(if evData (kindE k)=true then e.D.take 20 else [])=e.D.take 20:=by rw [hdt]; rfl
    refine finW_frz [0] rfl (Nat.zero_lt_one) cx0_m rfl (fun W' ms' α hL hI=>?_)
    have hfe:fitE e k=⟨kindE k,e.t % 1125899906842625#64,((padE e.N ((evNames (kindE k)).length-e.N.length)).take (evNames (kindE k)).length).map mk62,if evData (kindE k)=true then e.D.take 20 else []⟩:=rfl
    refine ⟨.a (.agg (evS (fitE e k) ⟨some ((α 4).add (0+0)),(evNames (kindE k)).length,c,some ((α 3).add (0+0)),(e.D.take 20).length,c2⟩)),[],⟨⟨rfl,rfl,rfl⟩,?_⟩,W',ms',⟨some ((α 4).add (0+0)),(evNames (kindE k)).length,c,some ((α 3).add (0+0)),(e.D.take 20).length,c2⟩,hL,⟨(by rw [show (fitE e k).N=_ from hT]; exact SlAt.frz (F:=fun j=>!memB j [0]) (hI 4 rfl) rfl (show (evNames (kindE k)).length≤c by omega) (show (evNames (kindE k)).length≤9223372036854775807 by omega) (by decide) (by rw [List.length_map,hTl,Nat.mul_one]) mask_fin (rz_w64 _)),(by rw [show (fitE e k).D=_ from hDD]; exact SlAt.frz (F:=fun j=>!memB j [0]) (hI 3 rfl) rfl (show (e.D.take 20).length≤c2 from hmle) (show (e.D.take 20).length≤9223372036854775807 by rw [List.length_take]; omega) (by decide) (by rw [List.length_map,Nat.mul_one]) take_fin (rz_w8 _))⟩,rfl,rfl⟩
    (repeat first|exact trivial|refine ent1 ?_)
set_option maxRecDepth 20000 in
set_option maxHeartbeats 16000000 in
theorem fn_efit10 {W:World} {ms:List Nat} {x:EvC} {e:Ev} (h:EvAt W ms x e) (hn:e.N.length≤1000) (hd:e.D.length≤1000) (hz:0<e.N.length) (hy:e.D.length=0) (k:BitVec 8):FnR Tryd.prog tds 11 1 [[.past W ms]] [.agg (evS e x),.c (.w8 k)] (fun _=>True)
  (fun y hs=>∃ W' ms' x',Later W ms W' ms'∧EvAt W' ms' x' (fitE e k)∧y=.a (.agg (evS (fitE e k) x'))∧hs=[[.past W' ms']]):=by
 refine fn_of_bodyW tds_ok follows_ Tryd.func11 rfl (t:=.a (.agg (evS e x))::.a (.c (.w8 k))::anys (Tryd.f11.ntmps-2)) rfl (fun w r0 hr _=>?_)
 obtain ⟨x0,rfl⟩:=List.length_eq_one_iff.1 hr
 have hm8:=many_le (kindE k)
 (repeat show _∧_;first|refine yr ?_|refine yt ?_|refine yf ?_|refine yo ?_)
 refine call_same (fn_ecl10 h (by omega) (by omega) hz hy) [0] rfl (by (repeat first|exact trivial|refine ent1 ?_)) (by (repeat first|exact trivial|refine ent1 ?_)) (fun _ _=>trivial) ?_
 rintro y hs' ⟨c1,hc1,rfl,rfl⟩
 (repeat show _∧_;first|refine yr ?_|refine yt ?_|refine yf ?_|refine yo ?_)
 refine call_same (fn_many (kindE k) (kindE_ok k)) [] rfl (by (repeat first|exact trivial|refine ent1 ?_)) trivial (fun _ _=>trivial) ?_
 rintro y hs' ⟨rfl,rfl⟩
 (repeat show _∧_;first|refine yr ?_|refine yt ?_|refine yf ?_|refine yo ?_)
 refine .inl ⟨List (BitVec 64) × Nat,fun (P,c)=>⟨[.any,.a (.c (.w8 (k))),.a (.c (.p 1 0 0)),.any,.a (.c (.p 2 0 0)),.a (.c (.int .i64 (↑(evNames (kindE k)).length))),.a (.c (.bool ((evData (kindE k))))),.any,.any,.any,.any,.any,.any,.any,.any,.any,.any,.any,.any,.any,.any,.any,.any,.any,.any,.any,.any,.any,.any,.any,.any,.any,.any,.any,.any,.any,.any,.any,.any,.any,.any,.any,.any,.any,.any,.any,.any,.any,.any,.any,.any,.any,.any,.any,.any,.any,.any,.any,.any,.any,.any,.any,.any,.any,.any,.any,.any,.any,.any,.any],[[.past W ms],[.one (.w8 (kindE k)),.one (.w64 (e.t % 1125899906842625#64)),.one (.sl 3 0 0 P.length c),.one (.slc none 0 0)],[.one (.w8 0),.one (.w64 0),.one (.slc none 0 0),.one (.slc none 0 0)],[.row c (numsF P)]]⟩,fun (P,c)=>P.length≤c∧P.length≤1100∧padE P ((evNames (kindE k)).length-P.length)=padE e.N ((evNames (kindE k)).length-e.N.length),fun (P,c)=>(evNames (kindE k)).length-P.length,⟨(e.N,c1),[0,1,2,3],⟨⟨rfl,rfl,rfl⟩,?_⟩,hc1,by omega,rfl⟩,fun (P,c) ⟨h1,h2,h3⟩=>?_⟩
 ·(repeat first|exact trivial|refine ent1 ?_)
  exact ⟨fun j hj=>eqC_numsM',by (repeat first|exact trivial|refine ent1 ?_)⟩
 refine And.intro (fun hlt=>?_) (fun hge=>?_)
 ·have hlt:P.length<(evNames (kindE k)).length:=by have:(P.length:Int)<((evNames (kindE k)).length:Int):=of_decide_eq_true hlt; omega
  (repeat show _∧_;first|refine yr ?_|refine yt ?_|refine yf ?_|refine yo ?_)
  refine And.intro ⟨h1,by first|omega|(simp only [scale_eq]; omega),show (P.length+1)*8≤140737488355328 by omega⟩ ?_
  intro c' hc'
  (repeat show _∧_;first|refine yr ?_|refine yt ?_|refine yf ?_|refine yo ?_)
  refine ⟨(P++[BitVec.ofNat 64 P.length*7#64],c'),[0,1,2,5],⟨⟨rfl,rfl,rfl⟩,?_⟩,⟨by rw [List.length_append,List.length_singleton]; exact hc',by rw [List.length_append,List.length_singleton]; omega,by rw [← h3]; exact (padE_step hlt).symm⟩,by dsimp only; rw [List.length_append,List.length_singleton]; omega⟩
  (repeat first|exact trivial|refine ent1 ?_)
  refine ⟨by rw [List.length_append,List.length_singleton],?_⟩
  (repeat first|exact trivial|refine ent1 ?_)
  exact ⟨fun j hj=>eqC_nums (app_nums rfl (fun j x h=>nums_get h) (congrArg SC.w64 (by rw [BitVec.ofInt_natCast]))) j,by (repeat first|exact trivial|refine ent1 ?_)⟩
 ·have hge:(evNames (kindE k)).length≤P.length:=by have:¬ (P.length:Int)<((evNames (kindE k)).length:Int):=of_decide_eq_false hge; omega
  rw [padE_done hge] at h3
  have hT:((padE e.N ((evNames (kindE k)).length-e.N.length)).take (evNames (kindE k)).length).map mk62=(P.take (evNames (kindE k)).length).map mk62:=by rw [← h3]
  have hTl:((P.take (evNames (kindE k)).length).map mk62).length=(evNames (kindE k)).length:=by simp only [List.length_map,List.length_take]; omega
  refine And.intro (show (0:Int)≤0∧(0:Int)≤((evNames (kindE k)).length:Int)∧((evNames (kindE k)).length:Int)≤(c:Int) by omega) ?_
  refine frcN_of (m:=0) rfl ?_
  refine frcN_of (m:=(evNames (kindE k)).length) (by omega) ?_
  refine frcN_of (m:=0) (by split <;> omega) ?_
  refine frcN_of (m:=(evNames (kindE k)).length) (by omega) ?_
  refine frcN_of (m:=c) (by omega) ?_
  (repeat show _∧_;first|refine yr ?_|refine yt ?_|refine yf ?_|refine yo ?_)
  refine .inl ⟨Nat,fun i=>⟨[.any,.a (.c (.w8 (k))),.a (.c (.p 1 0 0)),.any,.a (.c (.p 2 0 0)),.a (.c (.int .i64 (↑(evNames (kindE k)).length))),.a (.c (.bool ((evData (kindE k))))),.any,.any,.any,.any,.any,.any,.any,.any,.any,.any,.any,.any,.any,.any,.any,.any,.any,.any,.any,.any,.any,.any,.any,.any,.any,.any,.any,.any,.any,.any,.any,.any,.any,.any,.any,.any,.any,.any,.any,.a (.c (.int .i64 (↑(evNames (kindE k)).length))),.a (.c (.int .i64 (↑i))),.any,.any,.any,.any,.any,.any,.any,.any,.any,.any,.any,.any,.any,.any,.any,.any,.any,.any,.any,.any,.any,.any],[[.past W ms],[.one (.w8 (kindE k)),.one (.w64 (e.t % 1125899906842625#64)),.one (.sl 3 0 0 (evNames (kindE k)).length c),.one (.slc none 0 0)],[.one (.w8 0),.one (.w64 0),.one (.slc none 0 0),.one (.slc none 0 0)],[.row c (numsF (mskN i P))]]⟩,fun i=>i≤(evNames (kindE k)).length,fun i=>(evNames (kindE k)).length-i,⟨0,[0,1,2,3],⟨⟨rfl,rfl,rfl⟩,?_⟩,Nat.zero_le _⟩,fun i hi=>And.intro (fun hlt=>?_) (fun hge2=>?_)⟩
  ·(repeat first|exact trivial|refine ent1 ?_)
   exact ⟨fun j hj=>by rw [mskN_zero]; exact eqC_numsS,by (repeat first|exact trivial|refine ent1 ?_)⟩
  ·have hlt:i<(evNames (kindE k)).length:=by have:(i:Int)<((evNames (kindE k)).length:Int):=of_decide_eq_true hlt; omega
   obtain ⟨y,hy⟩:∃ y,P[i]?=some y:=⟨_,List.getElem?_eq_getElem (by omega)⟩
   have hmy:(mskN i P)[(i:Int).toNat+0]?=some y:=by rw [show (i:Int).toNat+0=i by omega,mskN_get hy,if_neg (by omega)]
   refine And.intro (show (0:Int)≤(i:Int)∧(i:Int)<((evNames (kindE k)).length:Int) by omega) ?_
   refine And.intro (show (i:Int).toNat+0<c by omega) ?_
   refine frc_nums hmy ?_
   refine And.intro (show (0:Int)≤(i:Int)∧(i:Int)<((evNames (kindE k)).length:Int) by omega) ?_
   refine And.intro (show (i:Int).toNat+0<c by omega) ?_
   (repeat show _∧_;first|refine yr ?_|refine yt ?_|refine yf ?_|refine yo ?_)
   refine ⟨i+1,[0,1,2,3],⟨⟨rfl,rfl,rfl⟩,?_⟩,by omega,by dsimp only; omega⟩
   (repeat first|exact trivial|refine ent1 ?_)
   exact ⟨fun j hj=>eqC_nums (fun j x h=>by rw [show (i:Int).toNat+0=i by omega]; exact msk_step hy j x h) j,by (repeat first|exact trivial|refine ent1 ?_)⟩
  ·obtain rfl:i=(evNames (kindE k)).length:=by have:¬ (i:Int)<((evNames (kindE k)).length:Int):=of_decide_eq_false hge2; omega
   (repeat show _∧_;first|refine yr ?_|refine yt ?_|refine yf ?_|refine yo ?_)
   cases hdt:evData (kindE k)
   ·refine And.intro (fun _=>?_) (fun h=>absurd h (by decide))
    (repeat show _∧_;first|refine yr ?_|refine yt ?_|refine yf ?_|refine yo ?_)
    have hDD:(if evData (kindE k)=true then e.D.take 20 else [])=[]:=by rw [hdt]; rfl
    refine finW_frz [0] rfl (Nat.zero_lt_one) cx0_m rfl (fun W' ms' α hL hI=>?_)
    have hfe:fitE e k=⟨kindE k,e.t % 1125899906842625#64,((padE e.N ((evNames (kindE k)).length-e.N.length)).take (evNames (kindE k)).length).map mk62,if evData (kindE k)=true then e.D.take 20 else []⟩:=rfl
    refine ⟨.a (.agg (evS (fitE e k) ⟨some ((α 3).add (0+0)),(evNames (kindE k)).length,c,none,0,0⟩)),[],⟨⟨rfl,rfl,rfl⟩,?_⟩,W',ms',⟨some ((α 3).add (0+0)),(evNames (kindE k)).length,c,none,0,0⟩,hL,⟨(by rw [show (fitE e k).N=_ from hT]; exact SlAt.frz (F:=fun j=>!memB j [0]) (hI 3 rfl) rfl (show (evNames (kindE k)).length≤c by omega) (show (evNames (kindE k)).length≤9223372036854775807 by omega) (by decide) (by rw [List.length_map,hTl,Nat.mul_one]) mask_fin (rz_w64 _)),(by rw [show (fitE e k).D=[] from hDD]; exact SlAt.nul)⟩,rfl,rfl⟩
    (repeat first|exact trivial|refine ent1 ?_)
   ·refine And.intro (fun h=>absurd h (by decide)) (fun _=>?_)
    (repeat show _∧_;first|refine yr ?_|refine yt ?_|refine yf ?_|refine yo ?_)
    have hDD:(if evData (kindE k)=true then e.D.take 20 else [])=[]:=by rw [hdt,List.eq_nil_of_length_eq_zero hy]; rfl
    refine finW_frz [0] rfl (Nat.zero_lt_one) cx0_m rfl (fun W' ms' α hL hI=>?_)
    have hfe:fitE e k=⟨kindE k,e.t % 1125899906842625#64,((padE e.N ((evNames (kindE k)).length-e.N.length)).take (evNames (kindE k)).length).map mk62,if evData (kindE k)=true then e.D.take 20 else []⟩:=rfl
    refine ⟨.a (.agg (evS (fitE e k) ⟨some ((α 3).add (0+0)),(evNames (kindE k)).length,c,none,0,0⟩)),[],⟨⟨rfl,rfl,rfl⟩,?_⟩,W',ms',⟨some ((α 3).add (0+0)),(evNames (kindE k)).length,c,none,0,0⟩,hL,⟨(by rw [show (fitE e k).N=_ from hT]; exact SlAt.frz (F:=fun j=>!memB j [0]) (hI 3 rfl) rfl (show (evNames (kindE k)).length≤c by omega) (show (evNames (kindE k)).length≤9223372036854775807 by omega) (by decide) (by rw [List.length_map,hTl,Nat.mul_one]) mask_fin (rz_w64 _)),(by rw [show (fitE e k).D=[] from hDD]; exact SlAt.nul)⟩,rfl,rfl⟩
    (repeat first|exact trivial|refine ent1 ?_)
set_option maxRecDepth 20000 in
set_option maxHeartbeats 16000000 in
theorem fn_efit01 {W:World} {ms:List Nat} {x:EvC} {e:Ev} (h:EvAt W ms x e) (hn:e.N.length≤1000) (hd:e.D.length≤1000) (hz:e.N.length=0) (hy:0<e.D.length) (k:BitVec 8):FnR Tryd.prog tds 11 1 [[.past W ms]] [.agg (evS e x),.c (.w8 k)] (fun _=>True)
  (fun y hs=>∃ W' ms' x',Later W ms W' ms'∧EvAt W' ms' x' (fitE e k)∧y=.a (.agg (evS (fitE e k) x'))∧hs=[[.past W' ms']]):=by
 refine fn_of_bodyW tds_ok follows_ Tryd.func11 rfl (t:=.a (.agg (evS e x))::.a (.c (.w8 k))::anys (Tryd.f11.ntmps-2)) rfl (fun w r0 hr _=>?_)
 obtain ⟨x0,rfl⟩:=List.length_eq_one_iff.1 hr
 have hm8:=many_le (kindE k)
 (repeat show _∧_;first|refine yr ?_|refine yt ?_|refine yf ?_|refine yo ?_)
 refine call_same (fn_ecl01 h (by omega) (by omega) hz hy) [0] rfl (by (repeat first|exact trivial|refine ent1 ?_)) (by (repeat first|exact trivial|refine ent1 ?_)) (fun _ _=>trivial) ?_
 rintro y hs' ⟨c2,hc2,rfl,rfl⟩
 (repeat show _∧_;first|refine yr ?_|refine yt ?_|refine yf ?_|refine yo ?_)
 refine call_same (fn_many (kindE k) (kindE_ok k)) [] rfl (by (repeat first|exact trivial|refine ent1 ?_)) trivial (fun _ _=>trivial) ?_
 rintro y hs' ⟨rfl,rfl⟩
 (repeat show _∧_;first|refine yr ?_|refine yt ?_|refine yf ?_|refine yo ?_)
 refine .inl ⟨Option (List (BitVec 64) × Nat),fun x=>match x with
  | none=>⟨[.any,.a (.c (.w8 (k))),.a (.c (.p 1 0 0)),.any,.a (.c (.p 2 0 0)),.a (.c (.int .i64 (↑(evNames (kindE k)).length))),.a (.c (.bool ((evData (kindE k))))),.any,.any,.any,.any,.any,.any,.any,.any,.any,.any,.any,.any,.any,.any,.any,.any,.any,.any,.any,.any,.any,.any,.any,.any,.any,.any,.any,.any,.any,.any,.any,.any,.any,.any,.any,.any,.any,.any,.any,.any,.any,.any,.any,.any,.any,.any,.any,.any,.any,.any,.any,.any,.any,.any,.any,.any,.any,.any,.any,.any,.any,.any,.any],[[.past W ms],[.one (.w8 (kindE k)),.one (.w64 (e.t % 1125899906842625#64)),.one (.slc none 0 0),.one (.sl 3 0 0 e.D.length c2)],[.one (.w8 0),.one (.w64 0),.one (.slc none 0 0),.one (.slc none 0 0)],lsC e.D c2]⟩
  | some (P,c)=>⟨[.any,.a (.c (.w8 (k))),.a (.c (.p 1 0 0)),.any,.a (.c (.p 2 0 0)),.a (.c (.int .i64 (↑(evNames (kindE k)).length))),.a (.c (.bool ((evData (kindE k))))),.any,.any,.any,.any,.any,.any,.any,.any,.any,.any,.any,.any,.any,.any,.any,.any,.any,.any,.any,.any,.any,.any,.any,.any,.any,.any,.any,.any,.any,.any,.any,.any,.any,.any,.any,.any,.any,.any,.any,.any,.any,.any,.any,.any,.any,.any,.any,.any,.any,.any,.any,.any,.any,.any,.any,.any,.any,.any,.any,.any,.any,.any,.any],[[.past W ms],[.one (.w8 (kindE k)),.one (.w64 (e.t % 1125899906842625#64)),.one (.sl 4 0 0 P.length c),.one (.sl 3 0 0 e.D.length c2)],[.one (.w8 0),.one (.w64 0),.one (.slc none 0 0),.one (.slc none 0 0)],lsC e.D c2,[.row c (numsF P)]]⟩,
  fun x=>match x with
  | none=>True
  | some (P,c)=>P.length≤c∧P.length≤1100∧padE P ((evNames (kindE k)).length-P.length)=padE e.N ((evNames (kindE k)).length-e.N.length),
  fun x=>match x with
  | none=>(evNames (kindE k)).length+1
  | some (P,c)=>(evNames (kindE k)).length-P.length,⟨none,[0,1,2,3],⟨⟨rfl,rfl,rfl⟩,by (repeat first|exact trivial|refine ent1 ?_)⟩,trivial⟩,fun x hx=>?_⟩
 have hN0:e.N=[]:=List.eq_nil_of_length_eq_zero hz
 rcases x with _|⟨P,c⟩
 ·refine And.intro (fun hlt=>?_) (fun hge=>?_)
  ·have hlt:0<(evNames (kindE k)).length:=by have:(0:Int)<((evNames (kindE k)).length:Int):=of_decide_eq_true hlt; omega
   (repeat show _∧_;first|refine yr ?_|refine yt ?_|refine yf ?_|refine yo ?_)
   intro c' hc'
   (repeat show _∧_;first|refine yr ?_|refine yt ?_|refine yf ?_|refine yo ?_)
   refine ⟨some ([BitVec.ofNat 64 0*7#64],c'),[0,1,2,3,5],⟨⟨rfl,rfl,rfl⟩,?_⟩,⟨hc',by decide,?_⟩,by dsimp only; simp only [List.length_singleton]; omega⟩
   ·(repeat first|exact trivial|refine ent1 ?_)
    exact ⟨fun j hj=>eqC_nums (new_nums rfl) j,by (repeat first|exact trivial|refine ent1 ?_)⟩
   ·have:=padE_step (P:=[]) (m:=(evNames (kindE k)).length) hlt
    rw [hN0]
    exact this.symm
  ·have hge:(evNames (kindE k)).length=0:=by have:¬ (0:Int)<((evNames (kindE k)).length:Int):=of_decide_eq_false hge; omega
   have hT:((padE e.N ((evNames (kindE k)).length-e.N.length)).take (evNames (kindE k)).length).map mk62=[]:=by rw [hge]; simp
   refine And.intro (show (0:Int)≤0∧(0:Int)≤((evNames (kindE k)).length:Int)∧((evNames (kindE k)).length:Int)≤((0:Nat):Int) by omega) ?_
   refine frcN_of (m:=0) rfl ?_
   refine frcN_of (m:=0) (by omega) ?_
   refine frcN_of (m:=0) rfl ?_
   refine frcN_of (m:=0) rfl ?_
   (repeat show _∧_;first|refine yr ?_|refine yt ?_|refine yf ?_|refine yo ?_)
   refine .inr ⟨1,?_⟩
   refine And.intro (fun h=>absurd h (by decide)) (fun _=>?_)
   cases hdt:evData (kindE k)
   ·refine And.intro (fun _=>?_) (fun h=>absurd h (by decide))
    (repeat show _∧_;first|refine yr ?_|refine yt ?_|refine yf ?_|refine yo ?_)
    have hDD:(if evData (kindE k)=true then e.D.take 20 else [])=[]:=by rw [hdt]; rfl
    refine finW_frz [0] rfl (Nat.zero_lt_one) cx0_m rfl (fun W' ms' α hL hI=>?_)
    have hfe:fitE e k=⟨kindE k,e.t % 1125899906842625#64,((padE e.N ((evNames (kindE k)).length-e.N.length)).take (evNames (kindE k)).length).map mk62,if evData (kindE k)=true then e.D.take 20 else []⟩:=rfl
    refine ⟨.a (.agg (evS (fitE e k) ⟨none,0,0,none,0,0⟩)),[],⟨⟨rfl,rfl,rfl⟩,?_⟩,W',ms',⟨none,0,0,none,0,0⟩,hL,⟨(by rw [show (fitE e k).N=[] from hT]; exact SlAt.nul),(by rw [show (fitE e k).D=[] from hDD]; exact SlAt.nul)⟩,rfl,rfl⟩
    (repeat first|exact trivial|refine ent1 ?_)
   ·refine And.intro (fun h=>absurd h (by decide)) (fun _=>?_)
    have hmin:(if (20:Int)<(e.D.length:Int) then (20:Int) else (e.D.length:Int))=((e.D.take 20).length:Int):=by rw [List.length_take]; split <;> omega
    have hmle:(e.D.take 20).length≤c2:=by rw [List.length_take]; omega
    refine And.intro (show (0:Int)≤0∧(0:Int)≤(if (20:Int)<(e.D.length:Int) then (20:Int) else (e.D.length:Int))∧(if (20:Int)<(e.D.length:Int) then (20:Int) else (e.D.length:Int))≤(c2:Int) by rw [hmin]; omega) ?_
    refine frcN_of (m:=0) rfl ?_
    refine frcN_of (m:=(e.D.take 20).length) (by rw [hmin]; rfl) ?_
    refine frcN_of (m:=0) (by split <;> omega) ?_
    refine frcN_of (m:=(e.D.take 20).length) (by omega) ?_
    refine frcN_of (m:=c2) (by omega) ?_
    (repeat show _∧_;first|refine yr ?_|refine yt ?_|refine yf ?_|refine yo ?_)
    have hDD:(if evData (kindE k)=true then e.D.take 20 else [])=e.D.take 20:=by rw [hdt]; rfl
    refine finW_frz [0] rfl (Nat.zero_lt_one) cx0_m rfl (fun W' ms' α hL hI=>?_)
    have hfe:fitE e k=⟨kindE k,e.t % 1125899906842625#64,((padE e.N ((evNames (kindE k)).length-e.N.length)).take (evNames (kindE k)).length).map mk62,if evData (kindE k)=true then e.D.take 20 else []⟩:=rfl
    refine ⟨.a (.agg (evS (fitE e k) ⟨none,0,0,some ((α 3).add (0+0)),(e.D.take 20).length,c2⟩)),[],⟨⟨rfl,rfl,rfl⟩,?_⟩,W',ms',⟨none,0,0,some ((α 3).add (0+0)),(e.D.take 20).length,c2⟩,hL,⟨(by rw [show (fitE e k).N=[] from hT]; exact SlAt.nul),(by rw [show (fitE e k).D=_ from hDD]; exact SlAt.frz (F:=fun j=>!memB j [0]) (hI 3 rfl) rfl (show (e.D.take 20).length≤c2 from hmle) (show (e.D.take 20).length≤9223372036854775807 by rw [List.length_take]; omega) (by decide) (by rw [List.length_map,Nat.mul_one]) take_fin (rz_w8 _))⟩,rfl,rfl⟩
    (repeat first|exact trivial|refine ent1 ?_)
 ·obtain ⟨h1,h2,h3⟩:=hx
  refine And.intro (fun hlt=>?_) (fun hge=>?_)
  ·have hlt:P.length<(evNames (kindE k)).length:=by have:(P.length:Int)<((evNames (kindE k)).length:Int):=of_decide_eq_true hlt; omega
   (repeat show _∧_;first|refine yr ?_|refine yt ?_|refine yf ?_|refine yo ?_)
   refine And.intro ⟨h1,by first|omega|(simp only [scale_eq]; omega),show (P.length+1)*8≤140737488355328 by omega⟩ ?_
   intro c' hc'
   (repeat show _∧_;first|refine yr ?_|refine yt ?_|refine yf ?_|refine yo ?_)
   refine ⟨some (P++[BitVec.ofNat 64 P.length*7#64],c'),[0,1,2,3,6],⟨⟨rfl,rfl,rfl⟩,?_⟩,⟨by rw [List.length_append,List.length_singleton]; exact hc',by rw [List.length_append,List.length_singleton]; omega,by rw [← h3]; exact (padE_step hlt).symm⟩,by dsimp only; rw [List.length_append,List.length_singleton]; omega⟩
   (repeat first|exact trivial|refine ent1 ?_)
   refine ⟨by rw [List.length_append,List.length_singleton],?_⟩
   (repeat first|exact trivial|refine ent1 ?_)
   exact ⟨fun j hj=>eqC_nums (app_nums rfl (fun j x h=>nums_get h) (congrArg SC.w64 (by rw [BitVec.ofInt_natCast]))) j,by (repeat first|exact trivial|refine ent1 ?_)⟩
  ·have hge:(evNames (kindE k)).length≤P.length:=by have:¬ (P.length:Int)<((evNames (kindE k)).length:Int):=of_decide_eq_false hge; omega
   rw [padE_done hge] at h3
   have hT:((padE e.N ((evNames (kindE k)).length-e.N.length)).take (evNames (kindE k)).length).map mk62=(P.take (evNames (kindE k)).length).map mk62:=by rw [← h3]
   have hTl:((P.take (evNames (kindE k)).length).map mk62).length=(evNames (kindE k)).length:=by simp only [List.length_map,List.length_take]; omega
   refine And.intro (show (0:Int)≤0∧(0:Int)≤((evNames (kindE k)).length:Int)∧((evNames (kindE k)).length:Int)≤(c:Int) by omega) ?_
   refine frcN_of (m:=0) rfl ?_
   refine frcN_of (m:=(evNames (kindE k)).length) (by omega) ?_
   refine frcN_of (m:=0) (by split <;> omega) ?_
   refine frcN_of (m:=(evNames (kindE k)).length) (by omega) ?_
   refine frcN_of (m:=c) (by omega) ?_
   (repeat show _∧_;first|refine yr ?_|refine yt ?_|refine yf ?_|refine yo ?_)
   refine .inl ⟨Nat,fun i=>⟨[.any,.a (.c (.w8 (k))),.a (.c (.p 1 0 0)),.any,.a (.c (.p 2 0 0)),.a (.c (.int .i64 (↑(evNames (kindE k)).length))),.a (.c (.bool ((evData (kindE k))))),.any,.any,.any,.any,.any,.any,.any,.any,.any,.any,.any,.any,.any,.any,.any,.any,.any,.any,.any,.any,.any,.any,.any,.any,.any,.any,.any,.any,.any,.any,.any,.any,.any,.any,.any,.any,.any,.any,.any,.a (.c (.int .i64 (↑(evNames (kindE k)).length))),.a (.c (.int .i64 (↑i))),.any,.any,.any,.any,.any,.any,.any,.any,.any,.any,.any,.any,.any,.any,.any,.any,.any,.any,.any,.any,.any,.any],[[.past W ms],[.one (.w8 (kindE k)),.one (.w64 (e.t % 1125899906842625#64)),.one (.sl 4 0 0 (evNames (kindE k)).length c),.one (.sl 3 0 0 e.D.length c2)],[.one (.w8 0),.one (.w64 0),.one (.slc none 0 0),.one (.slc none 0 0)],lsC e.D c2,[.row c (numsF (mskN i P))]]⟩,fun i=>i≤(evNames (kindE k)).length,fun i=>(evNames (kindE k)).length-i,⟨0,[0,1,2,3,4],⟨⟨rfl,rfl,rfl⟩,?_⟩,Nat.zero_le _⟩,fun i hi=>And.intro (fun hlt=>?_) (fun hge2=>?_)⟩
   ·(repeat first|exact trivial|refine ent1 ?_)
    exact ⟨fun j hj=>by rw [mskN_zero]; exact eqC_numsS,by (repeat first|exact trivial|refine ent1 ?_)⟩
   ·have hlt:i<(evNames (kindE k)).length:=by have:(i:Int)<((evNames (kindE k)).length:Int):=of_decide_eq_true hlt; omega
    obtain ⟨y,hy⟩:∃ y,P[i]?=some y:=⟨_,List.getElem?_eq_getElem (by omega)⟩
    have hmy:(mskN i P)[(i:Int).toNat+0]?=some y:=by rw [show (i:Int).toNat+0=i by omega,mskN_get hy,if_neg (by omega)]
    refine And.intro (show (0:Int)≤(i:Int)∧(i:Int)<((evNames (kindE k)).length:Int) by omega) ?_
    refine And.intro (show (i:Int).toNat+0<c by omega) ?_
    refine frc_nums hmy ?_
    refine And.intro (show (0:Int)≤(i:Int)∧(i:Int)<((evNames (kindE k)).length:Int) by omega) ?_
    refine And.intro (show (i:Int).toNat+0<c by omega) ?_
    (repeat show _∧_;first|refine yr ?_|refine yt ?_|refine yf ?_|refine yo ?_)
    refine ⟨i+1,[0,1,2,3,4],⟨⟨rfl,rfl,rfl⟩,?_⟩,by omega,by dsimp only; omega⟩
    (repeat first|exact trivial|refine ent1 ?_)
    exact ⟨fun j hj=>eqC_nums (fun j x h=>by rw [show (i:Int).toNat+0=i by omega]; exact msk_step hy j x h) j,by (repeat first|exact trivial|refine ent1 ?_)⟩
   ·obtain rfl:i=(evNames (kindE k)).length:=by have:¬ (i:Int)<((evNames (kindE k)).length:Int):=of_decide_eq_false hge2; omega
    (repeat show _∧_;first|refine yr ?_|refine yt ?_|refine yf ?_|refine yo ?_)
    cases hdt:evData (kindE k)
    ·refine And.intro (fun _=>?_) (fun h=>absurd h (by decide))
     (repeat show _∧_;first|refine yr ?_|refine yt ?_|refine yf ?_|refine yo ?_)
     have hDD:(if evData (kindE k)=true then e.D.take 20 else [])=[]:=by rw [hdt]; rfl
     refine finW_frz [0] rfl (Nat.zero_lt_one) cx0_m rfl (fun W' ms' α hL hI=>?_)
     have hfe:fitE e k=⟨kindE k,e.t % 1125899906842625#64,((padE e.N ((evNames (kindE k)).length-e.N.length)).take (evNames (kindE k)).length).map mk62,if evData (kindE k)=true then e.D.take 20 else []⟩:=rfl
     refine ⟨.a (.agg (evS (fitE e k) ⟨some ((α 4).add (0+0)),(evNames (kindE k)).length,c,none,0,0⟩)),[],⟨⟨rfl,rfl,rfl⟩,?_⟩,W',ms',⟨some ((α 4).add (0+0)),(evNames (kindE k)).length,c,none,0,0⟩,hL,⟨(by rw [show (fitE e k).N=_ from hT]; exact SlAt.frz (F:=fun j=>!memB j [0]) (hI 4 rfl) rfl (show (evNames (kindE k)).length≤c by omega) (show (evNames (kindE k)).length≤9223372036854775807 by omega) (by decide) (by rw [List.length_map,hTl,Nat.mul_one]) mask_fin (rz_w64 _)),(by rw [show (fitE e k).D=[] from hDD]; exact SlAt.nul)⟩,rfl,rfl⟩
     (repeat first|exact trivial|refine ent1 ?_)
    ·refine And.intro (fun h=>absurd h (by decide)) (fun _=>?_)
     have hmin:(if (20:Int)<(e.D.length:Int) then (20:Int) else (e.D.length:Int))=((e.D.take 20).length:Int):=by rw [List.length_take]; split <;> omega
     have hmle:(e.D.take 20).length≤c2:=by rw [List.length_take]; omega
     refine And.intro (show (0:Int)≤0∧(0:Int)≤(if (20:Int)<(e.D.length:Int) then (20:Int) else (e.D.length:Int))∧(if (20:Int)<(e.D.length:Int) then (20:Int) else (e.D.length:Int))≤(c2:Int) by rw [hmin]; omega) ?_
     refine frcN_of (m:=0) rfl ?_
     refine frcN_of (m:=(e.D.take 20).length) (by rw [hmin]; rfl) ?_
     refine frcN_of (m:=0) (by split <;> omega) ?_
     refine frcN_of (m:=(e.D.take 20).length) (by omega) ?_
     refine frcN_of (m:=c2) (by omega) ?_
     (repeat show _∧_;first|refine yr ?_|refine yt ?_|refine yf ?_|refine yo ?_)
     have hDD:(if evData (kindE k)=true then e.D.take 20 else [])=e.D.take 20:=by rw [hdt]; rfl
     refine finW_frz [0] rfl (Nat.zero_lt_one) cx0_m rfl (fun W' ms' α hL hI=>?_)
     have hfe:fitE e k=⟨kindE k,e.t % 1125899906842625#64,((padE e.N ((evNames (kindE k)).length-e.N.length)).take (evNames (kindE k)).length).map mk62,if evData (kindE k)=true then e.D.take 20 else []⟩:=rfl
     refine ⟨.a (.agg (evS (fitE e k) ⟨some ((α 4).add (0+0)),(evNames (kindE k)).length,c,some ((α 3).add (0+0)),(e.D.take 20).length,c2⟩)),[],⟨⟨rfl,rfl,rfl⟩,?_⟩,W',ms',⟨some ((α 4).add (0+0)),(evNames (kindE k)).length,c,some ((α 3).add (0+0)),(e.D.take 20).length,c2⟩,hL,⟨(by rw [show (fitE e k).N=_ from hT]; exact SlAt.frz (F:=fun j=>!memB j [0]) (hI 4 rfl) rfl (show (evNames (kindE k)).length≤c by omega) (show (evNames (kindE k)).length≤9223372036854775807 by omega) (by decide) (by rw [List.length_map,hTl,Nat.mul_one]) mask_fin (rz_w64 _)),(by rw [show (fitE e k).D=_ from hDD]; exact SlAt.frz (F:=fun j=>!memB j [0]) (hI 3 rfl) rfl (show (e.D.take 20).length≤c2 from hmle) (show (e.D.take 20).length≤9223372036854775807 by rw [List.length_take]; omega) (by decide) (by rw [List.length_map,Nat.mul_one]) take_fin (rz_w8 _))⟩,rfl,rfl⟩
     (repeat first|exact trivial|refine ent1 ?_)
set_option maxRecDepth 20000 in
set_option maxHeartbeats 16000000 in
theorem fn_efit00 {W:World} {ms:List Nat} {x:EvC} {e:Ev} (h:EvAt W ms x e) (hn:e.N.length≤1000) (hd:e.D.length≤1000) (hz:e.N.length=0) (hy:e.D.length=0) (k:BitVec 8):FnR Tryd.prog tds 11 1 [[.past W ms]] [.agg (evS e x),.c (.w8 k)] (fun _=>True)
  (fun y hs=>∃ W' ms' x',Later W ms W' ms'∧EvAt W' ms' x' (fitE e k)∧y=.a (.agg (evS (fitE e k) x'))∧hs=[[.past W' ms']]):=by
 refine fn_of_bodyW tds_ok follows_ Tryd.func11 rfl (t:=.a (.agg (evS e x))::.a (.c (.w8 k))::anys (Tryd.f11.ntmps-2)) rfl (fun w r0 hr _=>?_)
 obtain ⟨x0,rfl⟩:=List.length_eq_one_iff.1 hr
 have hm8:=many_le (kindE k)
 (repeat show _∧_;first|refine yr ?_|refine yt ?_|refine yf ?_|refine yo ?_)
 refine call_same (fn_ecl00 h (by omega) (by omega) hz hy) [0] rfl (by (repeat first|exact trivial|refine ent1 ?_)) (by (repeat first|exact trivial|refine ent1 ?_)) (fun _ _=>trivial) ?_
 rintro y hs' ⟨rfl,rfl⟩
 (repeat show _∧_;first|refine yr ?_|refine yt ?_|refine yf ?_|refine yo ?_)
 refine call_same (fn_many (kindE k) (kindE_ok k)) [] rfl (by (repeat first|exact trivial|refine ent1 ?_)) trivial (fun _ _=>trivial) ?_
 rintro y hs' ⟨rfl,rfl⟩
 (repeat show _∧_;first|refine yr ?_|refine yt ?_|refine yf ?_|refine yo ?_)
 refine .inl ⟨Option (List (BitVec 64) × Nat),fun x=>match x with
  | none=>⟨[.any,.a (.c (.w8 (k))),.a (.c (.p 1 0 0)),.any,.a (.c (.p 2 0 0)),.a (.c (.int .i64 (↑(evNames (kindE k)).length))),.a (.c (.bool ((evData (kindE k))))),.any,.any,.any,.any,.any,.any,.any,.any,.any,.any,.any,.any,.any,.any,.any,.any,.any,.any,.any,.any,.any,.any,.any,.any,.any,.any,.any,.any,.any,.any,.any,.any,.any,.any,.any,.any,.any,.any,.any,.any,.any,.any,.any,.any,.any,.any,.any,.any,.any,.any,.any,.any,.any,.any,.any,.any,.any,.any,.any,.any,.any,.any,.any],[[.past W ms],[.one (.w8 (kindE k)),.one (.w64 (e.t % 1125899906842625#64)),.one (.slc none 0 0),.one (.slc none 0 0)],[.one (.w8 0),.one (.w64 0),.one (.slc none 0 0),.one (.slc none 0 0)]]⟩
  | some (P,c)=>⟨[.any,.a (.c (.w8 (k))),.a (.c (.p 1 0 0)),.any,.a (.c (.p 2 0 0)),.a (.c (.int .i64 (↑(evNames (kindE k)).length))),.a (.c (.bool ((evData (kindE k))))),.any,.any,.any,.any,.any,.any,.any,.any,.any,.any,.any,.any,.any,.any,.any,.any,.any,.any,.any,.any,.any,.any,.any,.any,.any,.any,.any,.any,.any,.any,.any,.any,.any,.any,.any,.any,.any,.any,.any,.any,.any,.any,.any,.any,.any,.any,.any,.any,.any,.any,.any,.any,.any,.any,.any,.any,.any,.any,.any,.any,.any,.any,.any],[[.past W ms],[.one (.w8 (kindE k)),.one (.w64 (e.t % 1125899906842625#64)),.one (.sl 3 0 0 P.length c),.one (.slc none 0 0)],[.one (.w8 0),.one (.w64 0),.one (.slc none 0 0),.one (.slc none 0 0)],[.row c (numsF P)]]⟩,
  fun x=>match x with
  | none=>True
  | some (P,c)=>P.length≤c∧P.length≤1100∧padE P ((evNames (kindE k)).length-P.length)=padE e.N ((evNames (kindE k)).length-e.N.length),
  fun x=>match x with
  | none=>(evNames (kindE k)).length+1
  | some (P,c)=>(evNames (kindE k)).length-P.length,⟨none,[0,1,2],⟨⟨rfl,rfl,rfl⟩,by (repeat first|exact trivial|refine ent1 ?_)⟩,trivial⟩,fun x hx=>?_⟩
 have hN0:e.N=[]:=List.eq_nil_of_length_eq_zero hz
 rcases x with _|⟨P,c⟩
 ·refine And.intro (fun hlt=>?_) (fun hge=>?_)
  ·have hlt:0<(evNames (kindE k)).length:=by have:(0:Int)<((evNames (kindE k)).length:Int):=of_decide_eq_true hlt; omega
   (repeat show _∧_;first|refine yr ?_|refine yt ?_|refine yf ?_|refine yo ?_)
   intro c' hc'
   (repeat show _∧_;first|refine yr ?_|refine yt ?_|refine yf ?_|refine yo ?_)
   refine ⟨some ([BitVec.ofNat 64 0*7#64],c'),[0,1,2,4],⟨⟨rfl,rfl,rfl⟩,?_⟩,⟨hc',by decide,?_⟩,by dsimp only; simp only [List.length_singleton]; omega⟩
   ·(repeat first|exact trivial|refine ent1 ?_)
    exact ⟨fun j hj=>eqC_nums (new_nums rfl) j,by (repeat first|exact trivial|refine ent1 ?_)⟩
   ·have:=padE_step (P:=[]) (m:=(evNames (kindE k)).length) hlt
    rw [hN0]
    exact this.symm
  ·have hge:(evNames (kindE k)).length=0:=by have:¬ (0:Int)<((evNames (kindE k)).length:Int):=of_decide_eq_false hge; omega
   have hT:((padE e.N ((evNames (kindE k)).length-e.N.length)).take (evNames (kindE k)).length).map mk62=[]:=by rw [hge]; simp
   refine And.intro (show (0:Int)≤0∧(0:Int)≤((evNames (kindE k)).length:Int)∧((evNames (kindE k)).length:Int)≤((0:Nat):Int) by omega) ?_
   refine frcN_of (m:=0) rfl ?_
   refine frcN_of (m:=0) (by omega) ?_
   refine frcN_of (m:=0) rfl ?_
   refine frcN_of (m:=0) rfl ?_
   (repeat show _∧_;first|refine yr ?_|refine yt ?_|refine yf ?_|refine yo ?_)
   refine .inr ⟨1,?_⟩
   refine And.intro (fun h=>absurd h (by decide)) (fun _=>?_)
   cases hdt:evData (kindE k)
   ·refine And.intro (fun _=>?_) (fun h=>absurd h (by decide))
    (repeat show _∧_;first|refine yr ?_|refine yt ?_|refine yf ?_|refine yo ?_)
    have hDD:(if evData (kindE k)=true then e.D.take 20 else [])=[]:=by rw [hdt]; rfl
    refine finW_frz [0] rfl (Nat.zero_lt_one) cx0_m rfl (fun W' ms' α hL hI=>?_)
    have hfe:fitE e k=⟨kindE k,e.t % 1125899906842625#64,((padE e.N ((evNames (kindE k)).length-e.N.length)).take (evNames (kindE k)).length).map mk62,if evData (kindE k)=true then e.D.take 20 else []⟩:=rfl
    refine ⟨.a (.agg (evS (fitE e k) ⟨none,0,0,none,0,0⟩)),[],⟨⟨rfl,rfl,rfl⟩,?_⟩,W',ms',⟨none,0,0,none,0,0⟩,hL,⟨(by rw [show (fitE e k).N=[] from hT]; exact SlAt.nul),(by rw [show (fitE e k).D=[] from hDD]; exact SlAt.nul)⟩,rfl,rfl⟩
    (repeat first|exact trivial|refine ent1 ?_)
   ·refine And.intro (fun h=>absurd h (by decide)) (fun _=>?_)
    (repeat show _∧_;first|refine yr ?_|refine yt ?_|refine yf ?_|refine yo ?_)
    have hDD:(if evData (kindE k)=true then e.D.take 20 else [])=[]:=by rw [hdt,List.eq_nil_of_length_eq_zero hy]; rfl
    refine finW_frz [0] rfl (Nat.zero_lt_one) cx0_m rfl (fun W' ms' α hL hI=>?_)
    have hfe:fitE e k=⟨kindE k,e.t % 1125899906842625#64,((padE e.N ((evNames (kindE k)).length-e.N.length)).take (evNames (kindE k)).length).map mk62,if evData (kindE k)=true then e.D.take 20 else []⟩:=rfl
    refine ⟨.a (.agg (evS (fitE e k) ⟨none,0,0,none,0,0⟩)),[],⟨⟨rfl,rfl,rfl⟩,?_⟩,W',ms',⟨none,0,0,none,0,0⟩,hL,⟨(by rw [show (fitE e k).N=[] from hT]; exact SlAt.nul),(by rw [show (fitE e k).D=[] from hDD]; exact SlAt.nul)⟩,rfl,rfl⟩
    (repeat first|exact trivial|refine ent1 ?_)
 ·obtain ⟨h1,h2,h3⟩:=hx
  refine And.intro (fun hlt=>?_) (fun hge=>?_)
  ·have hlt:P.length<(evNames (kindE k)).length:=by have:(P.length:Int)<((evNames (kindE k)).length:Int):=of_decide_eq_true hlt; omega
   (repeat show _∧_;first|refine yr ?_|refine yt ?_|refine yf ?_|refine yo ?_)
   refine And.intro ⟨h1,by first|omega|(simp only [scale_eq]; omega),show (P.length+1)*8≤140737488355328 by omega⟩ ?_
   intro c' hc'
   (repeat show _∧_;first|refine yr ?_|refine yt ?_|refine yf ?_|refine yo ?_)
   refine ⟨some (P++[BitVec.ofNat 64 P.length*7#64],c'),[0,1,2,5],⟨⟨rfl,rfl,rfl⟩,?_⟩,⟨by rw [List.length_append,List.length_singleton]; exact hc',by rw [List.length_append,List.length_singleton]; omega,by rw [← h3]; exact (padE_step hlt).symm⟩,by dsimp only; rw [List.length_append,List.length_singleton]; omega⟩
   (repeat first|exact trivial|refine ent1 ?_)
   refine ⟨by rw [List.length_append,List.length_singleton],?_⟩
   (repeat first|exact trivial|refine ent1 ?_)
   exact ⟨fun j hj=>eqC_nums (app_nums rfl (fun j x h=>nums_get h) (congrArg SC.w64 (by rw [BitVec.ofInt_natCast]))) j,by (repeat first|exact trivial|refine ent1 ?_)⟩
  ·have hge:(evNames (kindE k)).length≤P.length:=by have:¬ (P.length:Int)<((evNames (kindE k)).length:Int):=of_decide_eq_false hge; omega
   rw [padE_done hge] at h3
   have hT:((padE e.N ((evNames (kindE k)).length-e.N.length)).take (evNames (kindE k)).length).map mk62=(P.take (evNames (kindE k)).length).map mk62:=by rw [← h3]
   have hTl:((P.take (evNames (kindE k)).length).map mk62).length=(evNames (kindE k)).length:=by simp only [List.length_map,List.length_take]; omega
   refine And.intro (show (0:Int)≤0∧(0:Int)≤((evNames (kindE k)).length:Int)∧((evNames (kindE k)).length:Int)≤(c:Int) by omega) ?_
   refine frcN_of (m:=0) rfl ?_
   refine frcN_of (m:=(evNames (kindE k)).length) (by omega) ?_
   refine frcN_of (m:=0) (by split <;> omega) ?_
   refine frcN_of (m:=(evNames (kindE k)).length) (by omega) ?_
   refine frcN_of (m:=c) (by omega) ?_
   (repeat show _∧_;first|refine yr ?_|refine yt ?_|refine yf ?_|refine yo ?_)
   refine .inl ⟨Nat,fun i=>⟨[.any,.a (.c (.w8 (k))),.a (.c (.p 1 0 0)),.any,.a (.c (.p 2 0 0)),.a (.c (.int .i64 (↑(evNames (kindE k)).length))),.a (.c (.bool ((evData (kindE k))))),.any,.any,.any,.any,.any,.any,.any,.any,.any,.any,.any,.any,.any,.any,.any,.any,.any,.any,.any,.any,.any,.any,.any,.any,.any,.any,.any,.any,.any,.any,.any,.any,.any,.any,.any,.any,.any,.any,.any,.a (.c (.int .i64 (↑(evNames (kindE k)).length))),.a (.c (.int .i64 (↑i))),.any,.any,.any,.any,.any,.any,.any,.any,.any,.any,.any,.any,.any,.any,.any,.any,.any,.any,.any,.any,.any,.any],[[.past W ms],[.one (.w8 (kindE k)),.one (.w64 (e.t % 1125899906842625#64)),.one (.sl 3 0 0 (evNames (kindE k)).length c),.one (.slc none 0 0)],[.one (.w8 0),.one (.w64 0),.one (.slc none 0 0),.one (.slc none 0 0)],[.row c (numsF (mskN i P))]]⟩,fun i=>i≤(evNames (kindE k)).length,fun i=>(evNames (kindE k)).length-i,⟨0,[0,1,2,3],⟨⟨rfl,rfl,rfl⟩,?_⟩,Nat.zero_le _⟩,fun i hi=>And.intro (fun hlt=>?_) (fun hge2=>?_)⟩
   ·(repeat first|exact trivial|refine ent1 ?_)
    exact ⟨fun j hj=>by rw [mskN_zero]; exact eqC_numsS,by (repeat first|exact trivial|refine ent1 ?_)⟩
   ·have hlt:i<(evNames (kindE k)).length:=by have:(i:Int)<((evNames (kindE k)).length:Int):=of_decide_eq_true hlt; omega
    obtain ⟨y,hy⟩:∃ y,P[i]?=some y:=⟨_,List.getElem?_eq_getElem (by omega)⟩
    have hmy:(mskN i P)[(i:Int).toNat+0]?=some y:=by rw [show (i:Int).toNat+0=i by omega,mskN_get hy,if_neg (by omega)]
    refine And.intro (show (0:Int)≤(i:Int)∧(i:Int)<((evNames (kindE k)).length:Int) by omega) ?_
    refine And.intro (show (i:Int).toNat+0<c by omega) ?_
    refine frc_nums hmy ?_
    refine And.intro (show (0:Int)≤(i:Int)∧(i:Int)<((evNames (kindE k)).length:Int) by omega) ?_
    refine And.intro (show (i:Int).toNat+0<c by omega) ?_
    (repeat show _∧_;first|refine yr ?_|refine yt ?_|refine yf ?_|refine yo ?_)
    refine ⟨i+1,[0,1,2,3],⟨⟨rfl,rfl,rfl⟩,?_⟩,by omega,by dsimp only; omega⟩
    (repeat first|exact trivial|refine ent1 ?_)
    exact ⟨fun j hj=>eqC_nums (fun j x h=>by rw [show (i:Int).toNat+0=i by omega]; exact msk_step hy j x h) j,by (repeat first|exact trivial|refine ent1 ?_)⟩
   ·obtain rfl:i=(evNames (kindE k)).length:=by have:¬ (i:Int)<((evNames (kindE k)).length:Int):=of_decide_eq_false hge2; omega
    (repeat show _∧_;first|refine yr ?_|refine yt ?_|refine yf ?_|refine yo ?_)
    cases hdt:evData (kindE k)
    ·refine And.intro (fun _=>?_) (fun h=>absurd h (by decide))
     (repeat show _∧_;first|refine yr ?_|refine yt ?_|refine yf ?_|refine yo ?_)
     have hDD:(if evData (kindE k)=true then e.D.take 20 else [])=[]:=by rw [hdt]; rfl
     refine finW_frz [0] rfl (Nat.zero_lt_one) cx0_m rfl (fun W' ms' α hL hI=>?_)
     have hfe:fitE e k=⟨kindE k,e.t % 1125899906842625#64,((padE e.N ((evNames (kindE k)).length-e.N.length)).take (evNames (kindE k)).length).map mk62,if evData (kindE k)=true then e.D.take 20 else []⟩:=rfl
     refine ⟨.a (.agg (evS (fitE e k) ⟨some ((α 3).add (0+0)),(evNames (kindE k)).length,c,none,0,0⟩)),[],⟨⟨rfl,rfl,rfl⟩,?_⟩,W',ms',⟨some ((α 3).add (0+0)),(evNames (kindE k)).length,c,none,0,0⟩,hL,⟨(by rw [show (fitE e k).N=_ from hT]; exact SlAt.frz (F:=fun j=>!memB j [0]) (hI 3 rfl) rfl (show (evNames (kindE k)).length≤c by omega) (show (evNames (kindE k)).length≤9223372036854775807 by omega) (by decide) (by rw [List.length_map,hTl,Nat.mul_one]) mask_fin (rz_w64 _)),(by rw [show (fitE e k).D=[] from hDD]; exact SlAt.nul)⟩,rfl,rfl⟩
     (repeat first|exact trivial|refine ent1 ?_)
    ·refine And.intro (fun h=>absurd h (by decide)) (fun _=>?_)
     (repeat show _∧_;first|refine yr ?_|refine yt ?_|refine yf ?_|refine yo ?_)
     have hDD:(if evData (kindE k)=true then e.D.take 20 else [])=[]:=by rw [hdt,List.eq_nil_of_length_eq_zero hy]; rfl
     refine finW_frz [0] rfl (Nat.zero_lt_one) cx0_m rfl (fun W' ms' α hL hI=>?_)
     have hfe:fitE e k=⟨kindE k,e.t % 1125899906842625#64,((padE e.N ((evNames (kindE k)).length-e.N.length)).take (evNames (kindE k)).length).map mk62,if evData (kindE k)=true then e.D.take 20 else []⟩:=rfl
     refine ⟨.a (.agg (evS (fitE e k) ⟨some ((α 3).add (0+0)),(evNames (kindE k)).length,c,none,0,0⟩)),[],⟨⟨rfl,rfl,rfl⟩,?_⟩,W',ms',⟨some ((α 3).add (0+0)),(evNames (kindE k)).length,c,none,0,0⟩,hL,⟨(by rw [show (fitE e k).N=_ from hT]; exact SlAt.frz (F:=fun j=>!memB j [0]) (hI 3 rfl) rfl (show (evNames (kindE k)).length≤c by omega) (show (evNames (kindE k)).length≤9223372036854775807 by omega) (by decide) (by rw [List.length_map,hTl,Nat.mul_one]) mask_fin (rz_w64 _)),(by rw [show (fitE e k).D=[] from hDD]; exact SlAt.nul)⟩,rfl,rfl⟩
     (repeat first|exact trivial|refine ent1 ?_)
end Sx
end
section
namespace Sx
open Go.RowKit Sha Vi Ev

theorem fn_efit {W:World} {ms:List Nat} {x:EvC} {e:Ev} (h:EvAt W ms x e) (hn:e.N.length≤1000) (hd:e.D.length≤1000) (k:BitVec 8):FnR Tryd.prog tds 11 1 [[.past W ms]] [.agg (evS e x),.c (.w8 k)] (fun _=>True)
  (fun y hs=>∃ W' ms' x',Later W ms W' ms'∧EvAt W' ms' x' (fitE e k)∧y=.a (.agg (evS (fitE e k) x'))∧hs=[[.past W' ms']]):=by
 rcases Nat.eq_zero_or_pos e.N.length with hz|hz <;> rcases Nat.eq_zero_or_pos e.D.length with hy|hy
 ·exact fn_efit00 h hn hd hz hy k
 ·exact fn_efit01 h hn hd hz hy k
 ·exact fn_efit10 h hn hd hz hy k
 ·exact fn_efit11 h hn hd hz hy k
structure EvsAt (W:World) (ms:List Nat) (a:Option Addr) (n c:Nat) (es:List Ev):Prop where
 len:es.length=n
 le:n≤c
 cap:n≤9223372036854775807
 nil:a=none→c=0
 elt:∀ A,a=some A→∀ k e,es[k]?=some e→∃ x,ImAt W ms (A.add (k*4)) (flat (evS e x))∧EvAt W ms x e
theorem EvsAt.later {W W':World} {ms ms':List Nat} {a:Option Addr} {n c:Nat} {es:List Ev} (h:EvsAt W ms a n c es) (k:Later W ms W' ms'):EvsAt W' ms' a n c es :=
 ⟨h.len,h.le,h.cap,h.nil,fun A ha j e he=>let ⟨x,h1,h2⟩:=h.elt A ha j e he; ⟨x,h1.later k,h2.later k⟩⟩
def lightE (es:List Ev):Bool:=decide (∀ e∈es,e.N.length≤30∧e.D.length≤100) && decide (es.length≤60)
set_option maxRecDepth 20000 in
set_option maxHeartbeats 8000000 in
theorem fn_light {W:World} {ms:List Nat} {a:Option Addr} {n c:Nat} {es:List Ev} (h:EvsAt W ms a n c es):FnR Tryd.prog tds 10 1 [[.past W ms]] [.c (.slc a n c)] (fun _=>True)
  (fun y hs=>y=.a (.c (.bool (lightE es)))∧hs=[[.past W ms]]):=by
 have hl:=h.len
 have hcap:=h.cap
 refine fn_of_body tds_ok follows_ Tryd.func10 rfl (t:=.a (.c (.slc a n c))::anys (Tryd.f10.ntmps-1)) rfl (fun w r0 hr _=>?_)
 obtain ⟨x0,rfl⟩:=List.length_eq_one_iff.1 hr
 (repeat show _∧_;first|refine yr ?_|refine yt ?_|refine yf ?_|refine yo ?_)
 refine .inl ⟨Nat,fun i=>⟨[.a (.c (.slc a n c)),.any,.any,.any,.any,.a (.c (.slc a n c)),.a (.c (.int .i64 (↑n))),.a (.c (.int .i64 (↑i))),.any,.any,.any,.any,.any,.any,.any,.any,.any,.any,.any,.any,.any,.any,.any,.any,.any],[[.past W ms]]⟩,fun i=>i≤n∧∀ j e,j<i→es[j]?=some e→e.N.length≤30∧e.D.length≤100,fun i=>n-i,⟨0,[0],⟨⟨rfl,rfl,rfl⟩,by (repeat first|exact trivial|refine ent1 ?_)⟩,Nat.zero_le _,fun j e hj=>absurd hj (Nat.not_lt_zero _)⟩,fun i ⟨hi,hall⟩=>And.intro (fun hlt=>?_) (fun hge=>?_)⟩
 ·have hlt:i<n:=by have:(i:Int)<(n:Int):=of_decide_eq_true hlt; omega
  obtain ⟨e,he⟩:∃ e,es[i]?=some e:=⟨_,List.getElem?_eq_getElem (by omega)⟩
  cases ha:a with
  | none=>have:=h.nil ha; have:=h.le; omega
  | some A =>
  obtain ⟨x,him,hx⟩:=h.elt A ha i e he
  have hnN:=hx.nN
  have hnD:=hx.nD
  obtain ⟨aN,nN,cN,aD,nD,cD⟩:=x
  dsimp only at hnN hnD
  subst hnN; subst hnD
  subst ha
  refine And.intro (show (0:Int)≤(i:Int)∧(i:Int)<(n:Int) by omega) ?_
  refine ⟨evS e ⟨aN,e.N.length,cN,aD,e.D.length,cD⟩,⟨RawAt.past (i:=0) rfl him,rfl⟩,?_⟩
  by_cases h1:30<e.N.length
  ·have e1:decide ((30:Int)<(e.N.length:Int))=true:=decide_eq_true (by omega)
   (repeat show _∧_;first|refine yr ?_|refine yt ?_|refine yf ?_|refine yt ?_ (by first|decide|(rw[e1];decide))|refine yf ?_ (by first|decide|(rw[e1];decide))|refine yo ?_)
   refine ⟨.a (.c (.bool (lightE es))),[[.past W ms]],⟨[0],⟨rfl,rfl,rfl⟩,?_⟩,rfl,rfl⟩
   have:lightE es=false:=by
    unfold lightE
    rw [decide_eq_false (fun hc=>by have:=(hc e (List.mem_of_getElem? he)).1; omega)]; rfl
   rw [this]
   (repeat first|exact trivial|refine ent1 ?_)
  have e1:decide ((30:Int)<(e.N.length:Int))=false:=decide_eq_false (by omega)
  by_cases h2:100<e.D.length
  ·have e2:decide ((100:Int)<(e.D.length:Int))=true:=decide_eq_true (by omega)
   (repeat show _∧_;first|refine yr ?_|refine yt ?_|refine yf ?_|refine yt ?_ (by first|decide|(rw[e1];decide)|(rw[e2];decide))|refine yf ?_ (by first|decide|(rw[e1];decide)|(rw[e2];decide))|refine yo ?_)
   refine ⟨.a (.c (.bool (lightE es))),[[.past W ms]],⟨[0],⟨rfl,rfl,rfl⟩,?_⟩,rfl,rfl⟩
   have:lightE es=false:=by
    unfold lightE
    rw [decide_eq_false (fun hc=>by have:=(hc e (List.mem_of_getElem? he)).2; omega)]; rfl
   rw [this]
   (repeat first|exact trivial|refine ent1 ?_)
  have e2:decide ((100:Int)<(e.D.length:Int))=false:=decide_eq_false (by omega)
  (repeat show _∧_;first|refine yr ?_|refine yt ?_|refine yf ?_|refine yt ?_ (by first|decide|(rw[e1];decide)|(rw[e2];decide))|refine yf ?_ (by first|decide|(rw[e1];decide)|(rw[e2];decide))|refine yo ?_)
  refine ⟨i+1,[0],⟨⟨rfl,rfl,rfl⟩,by (repeat first|exact trivial|refine ent1 ?_)⟩,⟨by omega,fun j e' hj he'=>?_⟩,by dsimp only; omega⟩
  by_cases hji:j=i
  ·subst hji; rw [he] at he'; injection he' with he'; subst he'; omega
  ·exact hall j e' (by omega) he'
 ·have hge:i=n:=by have:¬ (i:Int)<(n:Int):=of_decide_eq_false hge; omega
  subst hge
  have h1:lightE es=decide (es.length≤60):=by
   unfold lightE
   rw [decide_eq_true (fun e he=>by
    obtain ⟨j,hj,rfl⟩:=List.mem_iff_getElem.1 he
    exact hall j _ (by omega) (List.getElem?_eq_getElem hj))]
   rfl
  have h2:decide (es.length≤60)=decide ((i:Int)≤60):=by
   rw [hl]
   exact decide_eq_decide.2 (by omega)
  (repeat show _∧_;first|refine yr ?_|refine yt ?_|refine yf ?_|refine yo ?_)
  refine ⟨.a (.c (.bool (lightE es))),[[.past W ms]],⟨[0],⟨rfl,rfl,rfl⟩,?_⟩,rfl,rfl⟩
  rw [h1,h2]
  (repeat first|exact trivial|refine ent1 ?_)
end Sx
end
section
namespace Ev
def keyE (ks:Sha.Bs) (i:Nat):BitVec 8:=if i<ks.length then Sha.L ks i else BitVec.ofNat 8 i
def fit2E (e:Ev) (k:BitVec 8):Ev:=if (fitE e k).k=19#8 then fitE (fitE e k) 0#8 else fitE e k
def atE (t:BitVec 64) (e:Ev):BitVec 64:=if 1125899906842624#64<t+e.t % 100000#64 then 1125899906842624#64 else t+e.t % 100000#64
def rowE (ks:Sha.Bs):List Ev→Nat→BitVec 64→List Ev
 | [],_,_=>[]
 | e::r,i,t=>⟨(fit2E e (keyE ks i)).k,atE t (fit2E e (keyE ks i)),(fit2E e (keyE ks i)).N,(fit2E e (keyE ks i)).D⟩::rowE ks r (i+1) (atE t (fit2E e (keyE ks i)))
theorem rowE_len (ks:Sha.Bs):∀ (l:List Ev) (i:Nat) (t:BitVec 64),(rowE ks l i t).length=l.length
 | [],_,_=>rfl
 | e::r,i,t=>by rw [rowE,List.length_cons,rowE_len ks r]; rfl
theorem fitE_short (e:Ev) (k:BitVec 8) (hd:e.D.length≤1000):(fitE e k).N.length≤8∧(fitE e k).D.length≤20:=by
 have:=many_le (kindE k)
 refine ⟨?_,?_⟩
 ·show (((padE e.N _).take _).map mk62).length≤8
  rw [List.length_map,List.length_take]; omega
 ·show (if evData (kindE k)=true then e.D.take 20 else []).length≤20
  split
  ·rw [List.length_take]; omega
  ·decide
end Ev
namespace Sx
open Go.RowKit Sha Vi Ev

theorem eqC_raw {q:List Nat}:∀ {x:SC},x.raw=x→eqC q x x True
 | .any,_=>trivial
 | .int k n,_=>by cases k <;> exact ⟨rfl,trivial⟩
 | .w8 _,_=>⟨rfl,trivial⟩
 | .w16 _,_=>⟨rfl,trivial⟩
 | .w32 _,_=>⟨rfl,trivial⟩
 | .w64 _,_=>⟨rfl,trivial⟩
 | .bool _,_=>⟨rfl,trivial⟩
 | .str _,_=>⟨rfl,trivial⟩
 | .p ..,h=>by cases h
 | .sl ..,h=>by cases h
 | .ptr _,_=>⟨rfl,trivial⟩
 | .slc ..,_=>⟨rfl,trivial⟩
 | .ifc ..,_=>⟨rfl,trivial⟩
 | .nilIfc,_=>trivial
 | .fnv ..,_=>⟨rfl,trivial⟩
 | .clo ..,h=>by cases h
 | .nilFn,_=>trivial
 | .nilMap,_=>trivial
 | .sn ..,h=>by cases h
 | .mh _,h=>by cases h
 | .cap ..,h=>by cases h
structure RowAt (W:World) (ms:List Nat) (cs:List SC) (es:List Ev):Prop where
 len:cs.length=es.length*4
 raw:∀ x∈cs,x.raw=x
 elt:∀ k e,es[k]?=some e→∃ x,(∀ i y,(flat (evS e x))[i]?=some y→cs[k*4+i]?=some y)∧EvAt W ms x e
theorem RowAt.later {W W':World} {ms ms':List Nat} {cs:List SC} {es:List Ev} (h:RowAt W ms cs es) (k:Later W ms W' ms'):RowAt W' ms' cs es :=
 ⟨h.len,h.raw,fun j e he=>let ⟨x,h1,h2⟩:=h.elt j e he; ⟨x,h1,h2.later k⟩⟩
theorem RowAt.nil {W:World} {ms:List Nat}:RowAt W ms [] []:=⟨rfl,(fun x hx=>nomatch hx),fun k e h=>by simp at h⟩
theorem RowAt.snoc {W:World} {ms:List Nat} {cs:List SC} {es:List Ev} {e:Ev} {x:EvC} (h:RowAt W ms cs es) (hx:EvAt W ms x e):RowAt W ms (cs++flat (evS e x)) (es++[e]):=by
 have hl:=h.len
 refine ⟨by rw [List.length_append,hl,List.length_append,List.length_singleton]; show _+4=_; omega,fun y hy=>?_,fun k e' he=>?_⟩
 ·rcases List.mem_append.1 hy with hy|hy
  ·exact h.raw y hy
  ·simp only [flat,List.mem_cons,List.not_mem_nil,or_false] at hy
   rcases hy with rfl|rfl|rfl|rfl <;> rfl
 ·rcases Nat.lt_or_ge k es.length with hk|hk
  ·rw [List.getElem?_append_left hk] at he
   obtain ⟨z,h1,h2⟩:=h.elt k e' he
   refine ⟨z,fun i y hy=>?_,h2⟩
   have hi:=(List.getElem?_eq_some_iff.1 hy).1
   have h4:(flat (evS e' z)).length=4:=rfl
   rw [List.getElem?_append_left (by omega)]
   exact h1 i y hy
  ·rw [List.getElem?_append_right hk] at he
   have hk0:k-es.length=0:=by
    rcases Nat.eq_zero_or_pos (k-es.length) with h1|h1
    ·exact h1
    ·rw [List.getElem?_eq_none (by simp; omega)] at he; cases he
   rw [hk0] at he
   injection he with he
   subst he
   refine ⟨x,fun i y hy=>?_,hx⟩
   rw [List.getElem?_append_right (by omega),show k*4+i-cs.length=i by omega]
   exact hy
theorem sc4 (n:Nat):scale n (3+1)=n*4:=scale_eq _ _
theorem nthC_app_l {l m:List SC} {j:Nat} (h:j<l.length):nthC (l++m) j=nthC l j:=nthC_get? (by
 rw [List.getElem?_append_left h]
 have:∀ (l:List SC) (j:Nat),j<l.length→l[j]?=some (nthC l j):=by
  intro l
  induction l with
  | nil=>intro j h; simp at h
  | cons x l ih=>intro j h; cases j with
   | zero=>rfl
   | succ j=>rw [List.getElem?_cons_succ]; exact ih j (by simpa using h)
 exact this l j h)
theorem nthC_app_r {l m:List SC} {j:Nat} (h:l.length≤j):nthC (l++m) j=nthC m (j-l.length):=by
 induction l generalizing j with
 | nil=>rfl
 | cons x l ih =>
  cases j with
  | zero=>simp at h
  | succ j =>
   show nthC (l++m) j=_
   rw [ih (by simpa using h),List.length_cons,show j+1-(l.length+1)=j-l.length by omega]
theorem nthC_out {l:List SC} {j:Nat} (h:l.length≤j):nthC l j=.any:=by
 induction l generalizing j with
 | nil=>rfl
 | cons x l ih=>cases j with
  | zero=>simp at h
  | succ j=>exact ih (by simpa using h)
theorem nthC_mem {l:List SC} {j:Nat} (h:j<l.length):nthC l j∈l:=by
 induction l generalizing j with
 | nil=>simp at h
 | cons x l ih=>cases j with
  | zero=>exact List.mem_cons_self ..
  | succ j=>exact List.mem_cons_of_mem _ (ih (by simpa using h))
theorem eqC_cs {q:List Nat} {cs:List SC} (h:∀ x∈cs,x.raw=x) {f:Nat→SC} (hf:∀ j,j<cs.length→f j=nthC cs j) (j:Nat):eqC q (f j) (nthC cs j) True:=by
 rcases Nat.lt_or_ge j cs.length with hj|hj
 ·rw [hf j hj]; exact eqC_raw (h _ (nthC_mem hj))
 ·rw [nthC_out hj]; trivial
theorem app_cs {cs new:List SC} {n:Nat} {f g:Nat→SC} (hn:cs.length=n*4) (hf:∀ j,j<cs.length→f j=nthC cs j) (hw:new.length=4) (hg:∀ j,j<4→g j=nthC new j) (j:Nat) (hj:j<(cs++new).length):appF f 0 (scale n (3+1)) (scale 1 (3+1)) g j=nthC (cs++new) j:=by
 rw [List.length_append] at hj
 unfold appF
 rw [sc4,sc4]
 by_cases h:j<n*4
 ·rw [if_pos h,Nat.add_zero,hf j (by omega),nthC_app_l (by omega)]
 ·rw [if_neg h,if_pos (by omega),hg _ (by omega),nthC_app_r (by omega),hn]
theorem new_cs {new:List SC} {g:Nat→SC} (hw:new.length=4) (hg:∀ j,j<4→g j=nthC new j) (j:Nat) (hj:j<new.length):newF (scale 1 (3+1)) g j=nthC new j:=by
 rw [newF_lt (by rw [sc4]; omega),hg j (by omega)]
theorem updN_new {f:Nat→SC} {new:List SC} {j:Nat} (hj:j<4):updN f 0 4 (nthC new) (j+0)=nthC new j:=by
 unfold updN
 rw [if_pos ⟨Nat.zero_le _,by omega⟩]; rfl
set_option maxRecDepth 20000 in
set_option maxHeartbeats 16000000 in
theorem fn_erow {W:World} {ms:List Nat} {a:Option Addr} {n c:Nat} {es:List Ev} (h:EvsAt W ms a n c es) {aK:Option Addr} {nK cK:Nat} {ks:Bs} (hK:BsAt W ms aK nK cK ks) (hl:∀ e∈es,e.N.length≤30∧e.D.length≤100) (hn60:n≤60) (hn0:0<n) :
  FnR Tryd.prog tds 21 1 [[.past W ms]] [.c (.slc a n c),.c (.slc aK nK cK)] (fun _=>True)
  (fun y hs=>∃ W' ms' cs c',Later W ms W' ms'∧RowAt W' ms' cs (rowE ks es 0 0#64)∧n≤c'∧y=.a (.c (.sl 1 0 0 n c'))∧hs=[[.past W' ms'],[.row (scale c' (3+1)) (nthC cs)]]):=by
 have hlen:=h.len
 have hkl:=hK.n1
 refine fn_of_body tds_ok follows_ Tryd.func21 rfl (t:=.a (.c (.slc a n c))::.a (.c (.slc aK nK cK))::anys (Tryd.f21.ntmps-2)) rfl (fun w r0 hr _=>?_)
 obtain ⟨x0,rfl⟩:=List.length_eq_one_iff.1 hr
 cases ha:a with
 | none=>have:=h.nil ha; have:=h.le; omega
 | some A =>
 subst ha
 (repeat show _∧_;first|refine yr ?_|refine yt ?_|refine yf ?_|refine yo ?_)
 refine .inl ⟨Option (Nat × List Ev × List SC × Nat × BitVec 64 × World × List Nat),fun x=>match x with
  | none=>⟨[.a (.c (.slc (some A) n c)),.a (.c (.slc aK nK cK)),.any,.any,.any,.a (.c (.slc none 0 0)),.a (.c (.w64 (0))),.any,.any,.any,.a (.c (.slc (some A) n c)),.a (.c (.int .i64 (↑n))),.a (.c (.int .i64 (0))),.any,.any,.any,.any,.any,.any,.any,.any,.any,.any,.any,.any,.any,.any,.any,.any,.any,.any,.any,.any,.any,.any,.any,.any,.any,.any,.any,.any,.any,.any,.any,.any,.any,.any,.any,.any],[[.past W ms]]⟩
  | some (i,done,cs,c',t,W',ms')=>⟨[.a (.c (.slc (some A) n c)),.a (.c (.slc aK nK cK)),.any,.any,.any,.a (.c (.sl 1 0 0 i c')),.a (.c (.w64 (t))),.any,.any,.any,.a (.c (.slc (some A) n c)),.a (.c (.int .i64 (↑n))),.a (.c (.int .i64 (↑i))),.any,.any,.any,.any,.any,.any,.any,.any,.any,.any,.any,.any,.any,.any,.any,.any,.any,.any,.any,.any,.any,.any,.any,.any,.any,.any,.any,.any,.any,.any,.any,.any,.any,.any,.any,.any],[[.past W' ms'],[.row (scale c' (3+1)) (nthC cs)]]⟩,
  fun x=>match x with
  | none=>True
  | some (i,done,cs,c',t,W',ms')=>1≤i∧i≤n∧i≤c'∧Later W ms W' ms'∧RowAt W' ms' cs done∧done.length=i∧rowE ks es 0 0#64=done++rowE ks (es.drop i) i t,
  fun x=>match x with
  | none=>n+1
  | some (i,_,_,_,_,_,_)=>n-i,⟨none,[0],⟨⟨rfl,rfl,rfl⟩,by (repeat first|exact trivial|refine ent1 ?_)⟩,trivial⟩,fun x hp=>?_⟩
 rcases x with _|⟨i,done,cs,c',t,W',ms'⟩
 ·refine And.intro (fun hlt=>?_) (fun hge=>absurd (of_decide_eq_false hge) (by omega))
  ·have hlt:0<n:=by have:(0:Int)<(n:Int):=of_decide_eq_true hlt; omega
   obtain ⟨e,he⟩:∃ e,es[0]?=some e:=⟨_,List.getElem?_eq_getElem (by omega)⟩
   have hel:=hl e (List.mem_of_getElem? he)
   obtain ⟨x,him,hx⟩:=h.elt A rfl 0 e he
   refine And.intro (show (0:Int)≤(0:Int)∧(0:Int)<(n:Int) by omega) ?_
   refine ⟨evS e x,⟨RawAt.past (i:=0) rfl him,rfl⟩,?_⟩
   refine And.intro rfl ?_
   have rest:∀ kk:BitVec 8,kk=keyE ks 0→True:=fun _ _=>trivial
   by_cases hk:0<ks.length
   ·have ek:decide ((0:Int)<(nK:Int))=true:=decide_eq_true (by omega)
    cases haK:aK with
    | none=>subst haK; have:=hK.nil_.1; omega
    | some AK =>
    subst haK
    have hKle:=hK.le
    (repeat show _∧_;first|refine yr ?_|refine yt ?_|refine yf ?_|refine ya ek ?_|refine yb ek ?_|refine yo ?_)
    refine loadR (i:=0) rfl ((hK).im AK rfl (by omega)) (j:=0*1) (map_get? (show ks[0*1]?=some (L ks 0) by rw [Nat.mul_one,List.getElem?_eq_getElem hk,L_lt hk])) ?_
    (repeat show _∧_;first|refine yr ?_|refine yt ?_|refine yf ?_|refine yo ?_)
    refine call_past (fn_efit hx (by omega) (by omega) (L ks 0)) 0 [] rfl rfl (by (repeat first|exact trivial|refine ent1 ?_)) (by (repeat first|exact trivial|refine ent1 ?_)) (fun _ _=>trivial) (fun x hs hr=>?_) ?_
    ·obtain ⟨W',ms',x',h1,_,_,rfl⟩:=hr
     exact ⟨W',ms',rfl,h1⟩
    rintro y hs' ⟨W1,ms1,x1,hL1,hE1,rfl,rfl⟩
    have hs1:=fitE_short e (L ks 0) (by omega)
    have hkk:(L ks 0)=keyE ks 0:=by unfold keyE; rw [if_pos hk]
    rw [hkk] at hE1 hs1 ⊢
    by_cases h19:(fitE e (keyE ks 0)).k=19#8
    ·have e19:decide ((fitE e (keyE ks 0)).k=19#8)=true:=decide_eq_true h19
     (repeat show _∧_;first|refine yr ?_|refine yt ?_|refine yf ?_|refine ya e19 ?_|refine yb e19 ?_|refine yo ?_)
     refine call_past (fn_efit hE1 (by omega) (by omega) 0#8) 0 [] rfl rfl (by (repeat first|exact trivial|refine ent1 ?_)) (by (repeat first|exact trivial|refine ent1 ?_)) (fun _ _=>trivial) (fun x hs hr=>?_) ?_
     ·obtain ⟨W',ms',x',h1,_,_,rfl⟩:=hr
      exact ⟨W',ms',rfl,h1⟩
     rintro y hs' ⟨W2,ms2,x2,hL2,hE2,rfl,rfl⟩
     have hf2:fit2E e (keyE ks 0)=fitE (fitE e (keyE ks 0)) 0#8:=by unfold fit2E; rw [if_pos h19]
     obtain ⟨fe,hfe⟩:∃ fe,fitE (fitE e (keyE ks 0)) 0#8=fe:=⟨_,rfl⟩
     rw [hfe] at hE2 hf2 ⊢
     have hnew:EvAt W2 ms2 x2 (⟨fe.k,atE 0#64 fe,fe.N,fe.D⟩:Ev):=⟨hE2.N,hE2.D⟩
     (repeat show _∧_;first|refine yr ?_|refine yt ?_|refine yf ?_|refine yo ?_)
     refine And.intro (show 0+4≤4 by decide) ?_
     (repeat show _∧_;first|refine yr ?_|refine yt ?_|refine yf ?_|refine yo ?_)
     intro c2 hc2
     (repeat show _∧_;first|refine yr ?_|refine yt ?_|refine yf ?_|refine yo ?_)
     have hrw:RowAt W2 ms2 (flat (evS ⟨fe.k,atE 0#64 fe,fe.N,fe.D⟩ x2)) [⟨fe.k,atE 0#64 fe,fe.N,fe.D⟩]:=RowAt.nil.snoc hnew
     have hstep:rowE ks es 0 0#64=[⟨fe.k,atE 0#64 fe,fe.N,fe.D⟩]++rowE ks (es.drop 1) 1 (atE 0#64 fe):=by
      have hd:es=e::es.drop 1:=by
       have:=List.drop_eq_getElem_cons (l:=es) (i:=0) (by omega)
       rw [List.drop_zero] at this
       rw [List.getElem?_eq_getElem (by omega)] at he
       injection he with he
       rw [he] at this
       exact this
      conv=>lhs; rw [hd]
      rw [rowE,hf2]
      rfl
     refine ⟨some (1,[⟨fe.k,atE 0#64 fe,fe.N,fe.D⟩],flat (evS ⟨fe.k,atE 0#64 fe,fe.N,fe.D⟩ x2),c2,atE 0#64 fe,W2,ms2),[0,3],⟨⟨rfl,rfl,rfl⟩,?_⟩,⟨Nat.le_refl _,by omega,hc2,(hL1.trans hL2),hrw,rfl,hstep⟩,by dsimp only; omega⟩
     (repeat first|exact trivial|refine ent1 ?_)
     exact ⟨fun j hj=>eqC_cs hrw.raw (new_cs rfl fun j hj=>updN_new hj) j,by (repeat first|exact trivial|refine ent1 ?_)⟩
    ·have e19:decide ((fitE e (keyE ks 0)).k=19#8)=false:=decide_eq_false h19
     (repeat show _∧_;first|refine yr ?_|refine yt ?_|refine yf ?_|refine ya e19 ?_|refine yb e19 ?_|refine yo ?_)
     have hf2:fit2E e (keyE ks 0)=fitE e (keyE ks 0):=by unfold fit2E; rw [if_neg h19]
     obtain ⟨fe,hfe⟩:∃ fe,fitE e (keyE ks 0)=fe:=⟨_,rfl⟩
     rw [hfe] at hE1 hf2 ⊢
     have hnew:EvAt W1 ms1 x1 (⟨fe.k,atE 0#64 fe,fe.N,fe.D⟩:Ev):=⟨hE1.N,hE1.D⟩
     (repeat show _∧_;first|refine yr ?_|refine yt ?_|refine yf ?_|refine yo ?_)
     refine And.intro (show 0+4≤4 by decide) ?_
     (repeat show _∧_;first|refine yr ?_|refine yt ?_|refine yf ?_|refine yo ?_)
     intro c2 hc2
     (repeat show _∧_;first|refine yr ?_|refine yt ?_|refine yf ?_|refine yo ?_)
     have hrw:RowAt W1 ms1 (flat (evS ⟨fe.k,atE 0#64 fe,fe.N,fe.D⟩ x1)) [⟨fe.k,atE 0#64 fe,fe.N,fe.D⟩]:=RowAt.nil.snoc hnew
     have hstep:rowE ks es 0 0#64=[⟨fe.k,atE 0#64 fe,fe.N,fe.D⟩]++rowE ks (es.drop 1) 1 (atE 0#64 fe):=by
      have hd:es=e::es.drop 1:=by
       have:=List.drop_eq_getElem_cons (l:=es) (i:=0) (by omega)
       rw [List.drop_zero] at this
       rw [List.getElem?_eq_getElem (by omega)] at he
       injection he with he
       rw [he] at this
       exact this
      conv=>lhs; rw [hd]
      rw [rowE,hf2]
      rfl
     refine ⟨some (1,[⟨fe.k,atE 0#64 fe,fe.N,fe.D⟩],flat (evS ⟨fe.k,atE 0#64 fe,fe.N,fe.D⟩ x1),c2,atE 0#64 fe,W1,ms1),[0,3],⟨⟨rfl,rfl,rfl⟩,?_⟩,⟨Nat.le_refl _,by omega,hc2,hL1,hrw,rfl,hstep⟩,by dsimp only; omega⟩
     (repeat first|exact trivial|refine ent1 ?_)
     exact ⟨fun j hj=>eqC_cs hrw.raw (new_cs rfl fun j hj=>updN_new hj) j,by (repeat first|exact trivial|refine ent1 ?_)⟩
   ·have ek:decide ((0:Int)<(nK:Int))=false:=decide_eq_false (by omega)
    (repeat show _∧_;first|refine yr ?_|refine yt ?_|refine yf ?_|refine ya ek ?_|refine yb ek ?_|refine yo ?_)
    refine call_past (fn_efit hx (by omega) (by omega) (BitVec.ofInt 8 (0:Int))) 0 [] rfl rfl (by (repeat first|exact trivial|refine ent1 ?_)) (by (repeat first|exact trivial|refine ent1 ?_)) (fun _ _=>trivial) (fun x hs hr=>?_) ?_
    ·obtain ⟨W',ms',x',h1,_,_,rfl⟩:=hr
     exact ⟨W',ms',rfl,h1⟩
    rintro y hs' ⟨W1,ms1,x1,hL1,hE1,rfl,rfl⟩
    have hs1:=fitE_short e (BitVec.ofInt 8 (0:Int)) (by omega)
    have hkk:(BitVec.ofInt 8 (0:Int))=keyE ks 0:=by unfold keyE; rw [if_neg hk]; exact ofIntN 0
    rw [hkk] at hE1 hs1 ⊢
    by_cases h19:(fitE e (keyE ks 0)).k=19#8
    ·have e19:decide ((fitE e (keyE ks 0)).k=19#8)=true:=decide_eq_true h19
     (repeat show _∧_;first|refine yr ?_|refine yt ?_|refine yf ?_|refine ya e19 ?_|refine yb e19 ?_|refine yo ?_)
     refine call_past (fn_efit hE1 (by omega) (by omega) 0#8) 0 [] rfl rfl (by (repeat first|exact trivial|refine ent1 ?_)) (by (repeat first|exact trivial|refine ent1 ?_)) (fun _ _=>trivial) (fun x hs hr=>?_) ?_
     ·obtain ⟨W',ms',x',h1,_,_,rfl⟩:=hr
      exact ⟨W',ms',rfl,h1⟩
     rintro y hs' ⟨W2,ms2,x2,hL2,hE2,rfl,rfl⟩
     have hf2:fit2E e (keyE ks 0)=fitE (fitE e (keyE ks 0)) 0#8:=by unfold fit2E; rw [if_pos h19]
     obtain ⟨fe,hfe⟩:∃ fe,fitE (fitE e (keyE ks 0)) 0#8=fe:=⟨_,rfl⟩
     rw [hfe] at hE2 hf2 ⊢
     have hnew:EvAt W2 ms2 x2 (⟨fe.k,atE 0#64 fe,fe.N,fe.D⟩:Ev):=⟨hE2.N,hE2.D⟩
     (repeat show _∧_;first|refine yr ?_|refine yt ?_|refine yf ?_|refine yo ?_)
     refine And.intro (show 0+4≤4 by decide) ?_
     (repeat show _∧_;first|refine yr ?_|refine yt ?_|refine yf ?_|refine yo ?_)
     intro c2 hc2
     (repeat show _∧_;first|refine yr ?_|refine yt ?_|refine yf ?_|refine yo ?_)
     have hrw:RowAt W2 ms2 (flat (evS ⟨fe.k,atE 0#64 fe,fe.N,fe.D⟩ x2)) [⟨fe.k,atE 0#64 fe,fe.N,fe.D⟩]:=RowAt.nil.snoc hnew
     have hstep:rowE ks es 0 0#64=[⟨fe.k,atE 0#64 fe,fe.N,fe.D⟩]++rowE ks (es.drop 1) 1 (atE 0#64 fe):=by
      have hd:es=e::es.drop 1:=by
       have:=List.drop_eq_getElem_cons (l:=es) (i:=0) (by omega)
       rw [List.drop_zero] at this
       rw [List.getElem?_eq_getElem (by omega)] at he
       injection he with he
       rw [he] at this
       exact this
      conv=>lhs; rw [hd]
      rw [rowE,hf2]
      rfl
     refine ⟨some (1,[⟨fe.k,atE 0#64 fe,fe.N,fe.D⟩],flat (evS ⟨fe.k,atE 0#64 fe,fe.N,fe.D⟩ x2),c2,atE 0#64 fe,W2,ms2),[0,3],⟨⟨rfl,rfl,rfl⟩,?_⟩,⟨Nat.le_refl _,by omega,hc2,(hL1.trans hL2),hrw,rfl,hstep⟩,by dsimp only; omega⟩
     (repeat first|exact trivial|refine ent1 ?_)
     exact ⟨fun j hj=>eqC_cs hrw.raw (new_cs rfl fun j hj=>updN_new hj) j,by (repeat first|exact trivial|refine ent1 ?_)⟩
    ·have e19:decide ((fitE e (keyE ks 0)).k=19#8)=false:=decide_eq_false h19
     (repeat show _∧_;first|refine yr ?_|refine yt ?_|refine yf ?_|refine ya e19 ?_|refine yb e19 ?_|refine yo ?_)
     have hf2:fit2E e (keyE ks 0)=fitE e (keyE ks 0):=by unfold fit2E; rw [if_neg h19]
     obtain ⟨fe,hfe⟩:∃ fe,fitE e (keyE ks 0)=fe:=⟨_,rfl⟩
     rw [hfe] at hE1 hf2 ⊢
     have hnew:EvAt W1 ms1 x1 (⟨fe.k,atE 0#64 fe,fe.N,fe.D⟩:Ev):=⟨hE1.N,hE1.D⟩
     (repeat show _∧_;first|refine yr ?_|refine yt ?_|refine yf ?_|refine yo ?_)
     refine And.intro (show 0+4≤4 by decide) ?_
     (repeat show _∧_;first|refine yr ?_|refine yt ?_|refine yf ?_|refine yo ?_)
     intro c2 hc2
     (repeat show _∧_;first|refine yr ?_|refine yt ?_|refine yf ?_|refine yo ?_)
     have hrw:RowAt W1 ms1 (flat (evS ⟨fe.k,atE 0#64 fe,fe.N,fe.D⟩ x1)) [⟨fe.k,atE 0#64 fe,fe.N,fe.D⟩]:=RowAt.nil.snoc hnew
     have hstep:rowE ks es 0 0#64=[⟨fe.k,atE 0#64 fe,fe.N,fe.D⟩]++rowE ks (es.drop 1) 1 (atE 0#64 fe):=by
      have hd:es=e::es.drop 1:=by
       have:=List.drop_eq_getElem_cons (l:=es) (i:=0) (by omega)
       rw [List.drop_zero] at this
       rw [List.getElem?_eq_getElem (by omega)] at he
       injection he with he
       rw [he] at this
       exact this
      conv=>lhs; rw [hd]
      rw [rowE,hf2]
      rfl
     refine ⟨some (1,[⟨fe.k,atE 0#64 fe,fe.N,fe.D⟩],flat (evS ⟨fe.k,atE 0#64 fe,fe.N,fe.D⟩ x1),c2,atE 0#64 fe,W1,ms1),[0,3],⟨⟨rfl,rfl,rfl⟩,?_⟩,⟨Nat.le_refl _,by omega,hc2,hL1,hrw,rfl,hstep⟩,by dsimp only; omega⟩
     (repeat first|exact trivial|refine ent1 ?_)
     exact ⟨fun j hj=>eqC_cs hrw.raw (new_cs rfl fun j hj=>updN_new hj) j,by (repeat first|exact trivial|refine ent1 ?_)⟩
 ·obtain ⟨h1,h2,h3,hL,hrow,hdl,heq⟩:=hp
  refine And.intro (fun hlt=>?_) (fun hge=>?_)
  ·have hlt:i<n:=by have:(i:Int)<(n:Int):=of_decide_eq_true hlt; omega
   obtain ⟨e,he⟩:∃ e,es[i]?=some e:=⟨_,List.getElem?_eq_getElem (by omega)⟩
   have hel:=hl e (List.mem_of_getElem? he)
   obtain ⟨x,him,hx⟩:=h.elt A rfl i e he
   have him:=him.later hL
   have hx:=hx.later hL
   refine And.intro (show (0:Int)≤(i:Int)∧(i:Int)<(n:Int) by omega) ?_
   refine ⟨evS e x,⟨RawAt.past (i:=0) rfl him,rfl⟩,?_⟩
   refine And.intro rfl ?_
   have rest:∀ kk:BitVec 8,kk=keyE ks i→True:=fun _ _=>trivial
   by_cases hk:i<ks.length
   ·have ek:decide ((i:Int)<(nK:Int))=true:=decide_eq_true (by omega)
    cases haK:aK with
    | none=>subst haK; have:=hK.nil_.1; omega
    | some AK =>
    subst haK
    have hKle:=hK.le
    (repeat show _∧_;first|refine yr ?_|refine yt ?_|refine yf ?_|refine ya ek ?_|refine yb ek ?_|refine yo ?_)
    refine loadR (i:=0) rfl ((hK.later hL).im AK rfl (by omega)) (j:=i*1) (map_get? (show ks[i*1]?=some (L ks i) by rw [Nat.mul_one,List.getElem?_eq_getElem hk,L_lt hk])) ?_
    (repeat show _∧_;first|refine yr ?_|refine yt ?_|refine yf ?_|refine yo ?_)
    refine call_past (fn_efit hx (by omega) (by omega) (L ks i)) 0 [] rfl rfl (by (repeat first|exact trivial|refine ent1 ?_)) (by (repeat first|exact trivial|refine ent1 ?_)) (fun _ _=>trivial) (fun x hs hr=>?_) ?_
    ·obtain ⟨W',ms',x',h1,_,_,rfl⟩:=hr
     exact ⟨W',ms',rfl,h1⟩
    rintro y hs' ⟨W1,ms1,x1,hL1,hE1,rfl,rfl⟩
    have hs1:=fitE_short e (L ks i) (by omega)
    have hkk:(L ks i)=keyE ks i:=by unfold keyE; rw [if_pos hk]
    rw [hkk] at hE1 hs1 ⊢
    by_cases h19:(fitE e (keyE ks i)).k=19#8
    ·have e19:decide ((fitE e (keyE ks i)).k=19#8)=true:=decide_eq_true h19
     (repeat show _∧_;first|refine yr ?_|refine yt ?_|refine yf ?_|refine ya e19 ?_|refine yb e19 ?_|refine yo ?_)
     refine call_past (fn_efit hE1 (by omega) (by omega) 0#8) 0 [] rfl rfl (by (repeat first|exact trivial|refine ent1 ?_)) (by (repeat first|exact trivial|refine ent1 ?_)) (fun _ _=>trivial) (fun x hs hr=>?_) ?_
     ·obtain ⟨W',ms',x',h1,_,_,rfl⟩:=hr
      exact ⟨W',ms',rfl,h1⟩
     rintro y hs' ⟨W2,ms2,x2,hL2,hE2,rfl,rfl⟩
     have hf2:fit2E e (keyE ks i)=fitE (fitE e (keyE ks i)) 0#8:=by unfold fit2E; rw [if_pos h19]
     obtain ⟨fe,hfe⟩:∃ fe,fitE (fitE e (keyE ks i)) 0#8=fe:=⟨_,rfl⟩
     rw [hfe] at hE2 hf2 ⊢
     have hnew:EvAt W2 ms2 x2 (⟨fe.k,atE t fe,fe.N,fe.D⟩:Ev):=⟨hE2.N,hE2.D⟩
     (repeat show _∧_;first|refine yr ?_|refine yt ?_|refine yf ?_|refine yo ?_)
     refine And.intro (show 0+4≤4 by decide) ?_
     refine And.intro (show 0+scale 1 (3+1)≤4 by decide) ?_
     refine And.intro ⟨h3,by first|omega|(rw [sc4]; omega),show (i+1)*64≤140737488355328 by omega⟩ ?_
     intro c2 hc2
     (repeat show _∧_;first|refine yr ?_|refine yt ?_|refine yf ?_|refine yo ?_)
     have hrw:RowAt W2 ms2 (cs++flat (evS ⟨fe.k,atE t fe,fe.N,fe.D⟩ x2)) (done++[⟨fe.k,atE t fe,fe.N,fe.D⟩]):=(hrow.later (hL1.trans hL2)).snoc hnew
     have hstep:rowE ks es 0 0#64=(done++[⟨fe.k,atE t fe,fe.N,fe.D⟩])++rowE ks (es.drop (i+1)) (i+1) (atE t fe):=by
      have hd:=List.drop_eq_getElem_cons (l:=es) (i:=i) (by omega)
      rw [List.getElem?_eq_getElem (by omega)] at he
      injection he with he
      rw [he] at hd
      rw [heq,hd,rowE,hf2,List.append_assoc]
      rfl
     refine ⟨some (i+1,done++[⟨fe.k,atE t fe,fe.N,fe.D⟩],cs++flat (evS ⟨fe.k,atE t fe,fe.N,fe.D⟩ x2),c2,atE t fe,W2,ms2),[0,4],⟨⟨rfl,rfl,rfl⟩,?_⟩,⟨by omega,by omega,hc2,hL.trans (hL1.trans hL2),hrw,by rw [List.length_append,hdl]; rfl,hstep⟩,by dsimp only; omega⟩
     (repeat first|exact trivial|refine ent1 ?_)
     exact ⟨fun j hj=>eqC_cs hrw.raw (app_cs (by rw [hrow.len,hdl]) (fun _ _=>rfl) rfl fun j hj=>updN_new hj) j,by (repeat first|exact trivial|refine ent1 ?_)⟩
    ·have e19:decide ((fitE e (keyE ks i)).k=19#8)=false:=decide_eq_false h19
     (repeat show _∧_;first|refine yr ?_|refine yt ?_|refine yf ?_|refine ya e19 ?_|refine yb e19 ?_|refine yo ?_)
     have hf2:fit2E e (keyE ks i)=fitE e (keyE ks i):=by unfold fit2E; rw [if_neg h19]
     obtain ⟨fe,hfe⟩:∃ fe,fitE e (keyE ks i)=fe:=⟨_,rfl⟩
     rw [hfe] at hE1 hf2 ⊢
     have hnew:EvAt W1 ms1 x1 (⟨fe.k,atE t fe,fe.N,fe.D⟩:Ev):=⟨hE1.N,hE1.D⟩
     (repeat show _∧_;first|refine yr ?_|refine yt ?_|refine yf ?_|refine yo ?_)
     refine And.intro (show 0+4≤4 by decide) ?_
     refine And.intro (show 0+scale 1 (3+1)≤4 by decide) ?_
     refine And.intro ⟨h3,by first|omega|(rw [sc4]; omega),show (i+1)*64≤140737488355328 by omega⟩ ?_
     intro c2 hc2
     (repeat show _∧_;first|refine yr ?_|refine yt ?_|refine yf ?_|refine yo ?_)
     have hrw:RowAt W1 ms1 (cs++flat (evS ⟨fe.k,atE t fe,fe.N,fe.D⟩ x1)) (done++[⟨fe.k,atE t fe,fe.N,fe.D⟩]):=(hrow.later hL1).snoc hnew
     have hstep:rowE ks es 0 0#64=(done++[⟨fe.k,atE t fe,fe.N,fe.D⟩])++rowE ks (es.drop (i+1)) (i+1) (atE t fe):=by
      have hd:=List.drop_eq_getElem_cons (l:=es) (i:=i) (by omega)
      rw [List.getElem?_eq_getElem (by omega)] at he
      injection he with he
      rw [he] at hd
      rw [heq,hd,rowE,hf2,List.append_assoc]
      rfl
     refine ⟨some (i+1,done++[⟨fe.k,atE t fe,fe.N,fe.D⟩],cs++flat (evS ⟨fe.k,atE t fe,fe.N,fe.D⟩ x1),c2,atE t fe,W1,ms1),[0,4],⟨⟨rfl,rfl,rfl⟩,?_⟩,⟨by omega,by omega,hc2,hL.trans hL1,hrw,by rw [List.length_append,hdl]; rfl,hstep⟩,by dsimp only; omega⟩
     (repeat first|exact trivial|refine ent1 ?_)
     exact ⟨fun j hj=>eqC_cs hrw.raw (app_cs (by rw [hrow.len,hdl]) (fun _ _=>rfl) rfl fun j hj=>updN_new hj) j,by (repeat first|exact trivial|refine ent1 ?_)⟩
   ·have ek:decide ((i:Int)<(nK:Int))=false:=decide_eq_false (by omega)
    (repeat show _∧_;first|refine yr ?_|refine yt ?_|refine yf ?_|refine ya ek ?_|refine yb ek ?_|refine yo ?_)
    refine call_past (fn_efit hx (by omega) (by omega) (BitVec.ofInt 8 (i:Int))) 0 [] rfl rfl (by (repeat first|exact trivial|refine ent1 ?_)) (by (repeat first|exact trivial|refine ent1 ?_)) (fun _ _=>trivial) (fun x hs hr=>?_) ?_
    ·obtain ⟨W',ms',x',h1,_,_,rfl⟩:=hr
     exact ⟨W',ms',rfl,h1⟩
    rintro y hs' ⟨W1,ms1,x1,hL1,hE1,rfl,rfl⟩
    have hs1:=fitE_short e (BitVec.ofInt 8 (i:Int)) (by omega)
    have hkk:(BitVec.ofInt 8 (i:Int))=keyE ks i:=by unfold keyE; rw [if_neg hk]; exact ofIntN i
    rw [hkk] at hE1 hs1 ⊢
    by_cases h19:(fitE e (keyE ks i)).k=19#8
    ·have e19:decide ((fitE e (keyE ks i)).k=19#8)=true:=decide_eq_true h19
     (repeat show _∧_;first|refine yr ?_|refine yt ?_|refine yf ?_|refine ya e19 ?_|refine yb e19 ?_|refine yo ?_)
     refine call_past (fn_efit hE1 (by omega) (by omega) 0#8) 0 [] rfl rfl (by (repeat first|exact trivial|refine ent1 ?_)) (by (repeat first|exact trivial|refine ent1 ?_)) (fun _ _=>trivial) (fun x hs hr=>?_) ?_
     ·obtain ⟨W',ms',x',h1,_,_,rfl⟩:=hr
      exact ⟨W',ms',rfl,h1⟩
     rintro y hs' ⟨W2,ms2,x2,hL2,hE2,rfl,rfl⟩
     have hf2:fit2E e (keyE ks i)=fitE (fitE e (keyE ks i)) 0#8:=by unfold fit2E; rw [if_pos h19]
     obtain ⟨fe,hfe⟩:∃ fe,fitE (fitE e (keyE ks i)) 0#8=fe:=⟨_,rfl⟩
     rw [hfe] at hE2 hf2 ⊢
     have hnew:EvAt W2 ms2 x2 (⟨fe.k,atE t fe,fe.N,fe.D⟩:Ev):=⟨hE2.N,hE2.D⟩
     (repeat show _∧_;first|refine yr ?_|refine yt ?_|refine yf ?_|refine yo ?_)
     refine And.intro (show 0+4≤4 by decide) ?_
     refine And.intro (show 0+scale 1 (3+1)≤4 by decide) ?_
     refine And.intro ⟨h3,by first|omega|(rw [sc4]; omega),show (i+1)*64≤140737488355328 by omega⟩ ?_
     intro c2 hc2
     (repeat show _∧_;first|refine yr ?_|refine yt ?_|refine yf ?_|refine yo ?_)
     have hrw:RowAt W2 ms2 (cs++flat (evS ⟨fe.k,atE t fe,fe.N,fe.D⟩ x2)) (done++[⟨fe.k,atE t fe,fe.N,fe.D⟩]):=(hrow.later (hL1.trans hL2)).snoc hnew
     have hstep:rowE ks es 0 0#64=(done++[⟨fe.k,atE t fe,fe.N,fe.D⟩])++rowE ks (es.drop (i+1)) (i+1) (atE t fe):=by
      have hd:=List.drop_eq_getElem_cons (l:=es) (i:=i) (by omega)
      rw [List.getElem?_eq_getElem (by omega)] at he
      injection he with he
      rw [he] at hd
      rw [heq,hd,rowE,hf2,List.append_assoc]
      rfl
     refine ⟨some (i+1,done++[⟨fe.k,atE t fe,fe.N,fe.D⟩],cs++flat (evS ⟨fe.k,atE t fe,fe.N,fe.D⟩ x2),c2,atE t fe,W2,ms2),[0,4],⟨⟨rfl,rfl,rfl⟩,?_⟩,⟨by omega,by omega,hc2,hL.trans (hL1.trans hL2),hrw,by rw [List.length_append,hdl]; rfl,hstep⟩,by dsimp only; omega⟩
     (repeat first|exact trivial|refine ent1 ?_)
     exact ⟨fun j hj=>eqC_cs hrw.raw (app_cs (by rw [hrow.len,hdl]) (fun _ _=>rfl) rfl fun j hj=>updN_new hj) j,by (repeat first|exact trivial|refine ent1 ?_)⟩
    ·have e19:decide ((fitE e (keyE ks i)).k=19#8)=false:=decide_eq_false h19
     (repeat show _∧_;first|refine yr ?_|refine yt ?_|refine yf ?_|refine ya e19 ?_|refine yb e19 ?_|refine yo ?_)
     have hf2:fit2E e (keyE ks i)=fitE e (keyE ks i):=by unfold fit2E; rw [if_neg h19]
     obtain ⟨fe,hfe⟩:∃ fe,fitE e (keyE ks i)=fe:=⟨_,rfl⟩
     rw [hfe] at hE1 hf2 ⊢
     have hnew:EvAt W1 ms1 x1 (⟨fe.k,atE t fe,fe.N,fe.D⟩:Ev):=⟨hE1.N,hE1.D⟩
     (repeat show _∧_;first|refine yr ?_|refine yt ?_|refine yf ?_|refine yo ?_)
     refine And.intro (show 0+4≤4 by decide) ?_
     refine And.intro (show 0+scale 1 (3+1)≤4 by decide) ?_
     refine And.intro ⟨h3,by first|omega|(rw [sc4]; omega),show (i+1)*64≤140737488355328 by omega⟩ ?_
     intro c2 hc2
     (repeat show _∧_;first|refine yr ?_|refine yt ?_|refine yf ?_|refine yo ?_)
     have hrw:RowAt W1 ms1 (cs++flat (evS ⟨fe.k,atE t fe,fe.N,fe.D⟩ x1)) (done++[⟨fe.k,atE t fe,fe.N,fe.D⟩]):=(hrow.later hL1).snoc hnew
     have hstep:rowE ks es 0 0#64=(done++[⟨fe.k,atE t fe,fe.N,fe.D⟩])++rowE ks (es.drop (i+1)) (i+1) (atE t fe):=by
      have hd:=List.drop_eq_getElem_cons (l:=es) (i:=i) (by omega)
      rw [List.getElem?_eq_getElem (by omega)] at he
      injection he with he
      rw [he] at hd
      rw [heq,hd,rowE,hf2,List.append_assoc]
      rfl
     refine ⟨some (i+1,done++[⟨fe.k,atE t fe,fe.N,fe.D⟩],cs++flat (evS ⟨fe.k,atE t fe,fe.N,fe.D⟩ x1),c2,atE t fe,W1,ms1),[0,4],⟨⟨rfl,rfl,rfl⟩,?_⟩,⟨by omega,by omega,hc2,hL.trans hL1,hrw,by rw [List.length_append,hdl]; rfl,hstep⟩,by dsimp only; omega⟩
     (repeat first|exact trivial|refine ent1 ?_)
     exact ⟨fun j hj=>eqC_cs hrw.raw (app_cs (by rw [hrow.len,hdl]) (fun _ _=>rfl) rfl fun j hj=>updN_new hj) j,by (repeat first|exact trivial|refine ent1 ?_)⟩
  ·obtain rfl:i=n:=by have:¬ (i:Int)<(n:Int):=of_decide_eq_false hge; omega
   have hfin:rowE ks es 0 0#64=done:=by rw [heq,List.drop_eq_nil_of_le (by omega),rowE,List.append_nil]
   (repeat show _∧_;first|refine yr ?_|refine yt ?_|refine yf ?_|refine yo ?_)
   refine ⟨.a (.c (.sl 1 0 0 i c')),[[.past W' ms'],[.row (scale c' (3+1)) (nthC cs)]],⟨[0,1],⟨rfl,rfl,rfl⟩,?_⟩,W',ms',cs,c',hL,by rw [hfin]; exact hrow,h3,rfl,rfl⟩
   (repeat first|exact trivial|refine ent1 ?_)
   exact ⟨fun j hj=>eqC_cs hrow.raw (fun _ _=>rfl) j,trivial⟩
end Sx
end
section
namespace Ev
def sameE (a b:Ev):Prop:=a.k=b.k∧a.t=b.t∧a.N=b.N∧a.D=b.D
instance (a b:Ev):Decidable (sameE a b):=by unfold sameE; infer_instance
end Ev
namespace Sx
open Go.RowKit Sha Vi Ev

theorem strR {C:Cx} {h:List (List Seg)} {i:Nat} {W:World} {ms:List Nat} (hp:h[i]?=some [.past W ms]) {a:Addr} {n c:Nat} {l:Bs} (k:BsAt W ms (some a) n c l) {K:List UInt8→Prop} (hk:K (U8 l)) :
  ∃ f,(n=0∨RawAt C h a ((List.range (n*1)).map f))∧∃ s:List UInt8,(s.length=n∧∀ q,q<n→f q=.w8 (s.getD q 0).toBitVec)∧K s:=by
 have hn:=k.n1
 refine ⟨nthC (l.map .w8),?_,U8 l,⟨by rw [U8_len,hn],fun q hq=>?_⟩,hk⟩
 ·rcases Nat.eq_zero_or_pos n with h0|h0
  ·exact .inl h0
  ·exact .inr (by rw [← k.len,range_nthC]; exact .past hp (k.im a rfl (by have:=k.le; omega)))
 ·rw [nthC_w8 l q (by omega),U8_get l q (by omega)]
set_option maxRecDepth 20000 in
set_option maxHeartbeats 8000000 in
theorem fn_bequal {W:World} {ms:List Nat} {a b:Option Addr} {n c m d:Nat} {l l2:Bs} (h1:BsAt W ms a n c l) (h2:BsAt W ms b m d l2):FnR Tryd.prog tds 41 1 [[.past W ms]] [.c (.slc a n c),.c (.slc b m d)] (fun _=>True)
  (fun y hs=>y=.a (.c (.bool (decide (l=l2))))∧hs=[[.past W ms]]):=by
 refine fn_of_body tds_ok follows_ Tryd.func41 rfl (t:=.a (.c (.slc a n c))::.a (.c (.slc b m d))::anys (Tryd.f41.ntmps-2)) rfl (fun w r0 hr _=>?_)
 obtain ⟨x0,rfl⟩:=List.length_eq_one_iff.1 hr
 have fin:decide (U8 l=U8 l2)=decide (l=l2):=decide_eq_decide.2 ⟨U8_inj,fun h=>by rw [h]⟩
 cases a with
 | none =>
  obtain ⟨rfl,rfl,hl⟩:=h1.nil_
  obtain rfl:l=[]:=by simpa using hl
  refine And.intro rfl ?_
  refine ⟨[],⟨rfl,fun q hq=>absurd hq (Nat.not_lt_zero _)⟩,?_⟩
  cases b with
  | none =>
   obtain ⟨rfl,rfl,hl2⟩:=h2.nil_
   obtain rfl:l2=[]:=by simpa using hl2
   refine And.intro rfl ?_
   refine ⟨[],⟨rfl,fun q hq=>absurd hq (Nat.not_lt_zero _)⟩,?_⟩
   exact ⟨.a (.c (.bool (decide (([]:Bs)=[])))),[[.past W ms]],⟨[0],⟨rfl,rfl,rfl⟩,by (repeat first|exact trivial|refine ent1 ?_)⟩,rfl,rfl⟩
  | some B =>
   refine strR (i:=0) rfl h2 ?_
   refine ⟨.a (.c (.bool (decide ([]=l2)))),[[.past W ms]],⟨[0],⟨rfl,rfl,rfl⟩,?_⟩,rfl,rfl⟩
   rw [← fin]
   (repeat first|exact trivial|refine ent1 ?_)
 | some A =>
  refine strR (i:=0) rfl h1 ?_
  cases b with
  | none =>
   obtain ⟨rfl,rfl,hl2⟩:=h2.nil_
   obtain rfl:l2=[]:=by simpa using hl2
   refine And.intro rfl ?_
   refine ⟨[],⟨rfl,fun q hq=>absurd hq (Nat.not_lt_zero _)⟩,?_⟩
   refine ⟨.a (.c (.bool (decide (l=[])))),[[.past W ms]],⟨[0],⟨rfl,rfl,rfl⟩,?_⟩,rfl,rfl⟩
   rw [← fin]
   (repeat first|exact trivial|refine ent1 ?_)
  | some B =>
   refine strR (i:=0) rfl h2 ?_
   refine ⟨.a (.c (.bool (decide (l=l2)))),[[.past W ms]],⟨[0],⟨rfl,rfl,rfl⟩,?_⟩,rfl,rfl⟩
   rw [← fin]
   (repeat first|exact trivial|refine ent1 ?_)
set_option maxRecDepth 20000 in
set_option maxHeartbeats 8000000 in
theorem fn_nequal {W:World} {ms:List Nat} {a b:Option Addr} {n c m d:Nat} {l l2:List (BitVec 64)} (h1:NsAt W ms a n c l) (h2:NsAt W ms b m d l2):FnR Tryd.prog tds 40 1 [[.past W ms]] [.c (.slc a n c),.c (.slc b m d)] (fun _=>True)
  (fun y hs=>y=.a (.c (.bool (decide (l=l2))))∧hs=[[.past W ms]]):=by
 refine fn_of_body tds_ok follows_ Tryd.func40 rfl (t:=.a (.c (.slc a n c))::.a (.c (.slc b m d))::anys (Tryd.f40.ntmps-2)) rfl (fun w r0 hr _=>?_)
 obtain ⟨x0,rfl⟩:=List.length_eq_one_iff.1 hr
 have hn:=h1.n1
 have hm:=h2.n1
 have hcap:=h1.cap
 have hle1:=h1.le
 have hle2:=h2.le
 by_cases h0:n=m
 rotate_left
 ·have e0:decide ((n:Int)≠(m:Int))=true:=decide_eq_true (by omega)
  rw [show decide (l=l2)=false from decide_eq_false fun h=>h0 (by rw [← hn,← hm,h])]
  (repeat show _∧_;first|refine yr ?_|refine yt ?_|refine yf ?_|refine ya e0 ?_|refine yb e0 ?_|refine yo ?_)
  exact ⟨.a (.c (.bool false)),[[.past W ms]],⟨[0],⟨rfl,rfl,rfl⟩,by (repeat first|exact trivial|refine ent1 ?_)⟩,rfl,rfl⟩
 have e0:decide ((n:Int)≠(m:Int))=false:=decide_eq_false (by omega)
 (repeat show _∧_;first|refine yr ?_|refine yt ?_|refine yf ?_|refine ya e0 ?_|refine yb e0 ?_|refine yo ?_)
 refine .inl ⟨Nat,fun i=>⟨[.a (.c (.slc a n c)),.a (.c (.slc b m d)),.any,.any,.any,.any,.any,.any,.any,.any,.any,.any,.a (.c (.int .i64 (↑n))),.a (.c (.int .i64 (↑i))),.any,.any,.any,.any,.any,.any,.any,.any,.any,.any,.any,.any],[[.past W ms]]⟩,fun i=>i≤n∧∀ j,j<i→l[j]?=l2[j]?,fun i=>n-i,⟨0,[0],⟨⟨rfl,rfl,rfl⟩,by (repeat first|exact trivial|refine ent1 ?_)⟩,Nat.zero_le _,fun j hj=>absurd hj (Nat.not_lt_zero _)⟩,fun i ⟨hi,hall⟩=>And.intro (fun hlt=>?_) (fun hge=>?_)⟩
 ·have hlt:i<n:=by have:(i:Int)<(n:Int):=of_decide_eq_true hlt; omega
  obtain ⟨x,hx⟩:∃ x,l[i]?=some x:=⟨_,List.getElem?_eq_getElem (by omega)⟩
  obtain ⟨y,hy⟩:∃ y,l2[i]?=some y:=⟨_,List.getElem?_eq_getElem (by omega)⟩
  cases a with
  | none=>have:=h1.nil_.1; omega
  | some A =>
  cases b with
  | none=>have:=h2.nil_.1; omega
  | some B =>
  refine ⟨none,[],[(0,true),(1,true),(2,true),(3,true),(4,true),(5,true),(6,true),(7,true),(8,true)],[],by kernel_rfl,?_⟩
  refine And.intro (show (0:Int)≤(i:Int)∧(i:Int)<(n:Int) by omega) ?_
  refine loadR (i:=0) rfl (h1.im A rfl (by omega)) (j:=i*1) (map_get? (by rw [Nat.mul_one]; exact hx)) ?_
  refine And.intro (show (0:Int)≤(i:Int)∧(i:Int)<(m:Int) by omega) ?_
  refine loadR (i:=0) rfl (h2.im B rfl (by omega)) (j:=i*1) (map_get? (by rw [Nat.mul_one]; exact hy)) ?_
  by_cases hxy:x=y
  ·have e1:decide (x≠y)=false:=decide_eq_false fun h=>h hxy
   (repeat show _∧_;first|refine yr ?_|refine yt ?_|refine yf ?_|refine ya e1 ?_|refine yb e1 ?_|refine yo ?_)
   refine ⟨i+1,[0],⟨⟨rfl,rfl,rfl⟩,by (repeat first|exact trivial|refine ent1 ?_)⟩,⟨by omega,fun j hj=>?_⟩,by dsimp only; omega⟩
   by_cases hji:j=i
   ·subst hji; rw [hx,hy,hxy]
   ·exact hall j (by omega)
  ·have e1:decide (x≠y)=true:=decide_eq_true hxy
   rw [show decide (l=l2)=false from decide_eq_false fun h=>hxy (by rw [h,hy] at hx; injection hx with hx; exact hx.symm)]
   (repeat show _∧_;first|refine yr ?_|refine yt ?_|refine yf ?_|refine ya e1 ?_|refine yb e1 ?_|refine yo ?_)
   exact ⟨.a (.c (.bool false)),[[.past W ms]],⟨[0],⟨rfl,rfl,rfl⟩,by (repeat first|exact trivial|refine ent1 ?_)⟩,rfl,rfl⟩
 ·have hge:i=n:=by have:¬ (i:Int)<(n:Int):=of_decide_eq_false hge; omega
  have heq:l=l2:=by
   apply List.ext_getElem?
   intro j
   rcases Nat.lt_or_ge j n with hj|hj
   ·exact hall j (by omega)
   ·rw [List.getElem?_eq_none (by omega),List.getElem?_eq_none (by omega)]
  rw [show decide (l=l2)=true from decide_eq_true heq]
  (repeat show _∧_;first|refine yr ?_|refine yt ?_|refine yf ?_|refine yo ?_)
  exact ⟨.a (.c (.bool true)),[[.past W ms]],⟨[0],⟨rfl,rfl,rfl⟩,by (repeat first|exact trivial|refine ent1 ?_)⟩,rfl,rfl⟩
set_option maxRecDepth 20000 in
set_option maxHeartbeats 8000000 in
theorem fn_esame {W:World} {ms:List Nat} {x y:EvC} {e f:Ev} (hx:EvAt W ms x e) (hy:EvAt W ms y f):FnR Tryd.prog tds 15 1 [[.past W ms]] [.agg (evS e x),.agg (evS f y)] (fun _=>True)
  (fun y hs=>y=.a (.c (.bool (decide (sameE e f))))∧hs=[[.past W ms]]):=by
 refine fn_of_body tds_ok follows_ Tryd.func15 rfl (t:=.a (.agg (evS e x))::.a (.agg (evS f y))::anys (Tryd.f15.ntmps-2)) rfl (fun w r0 hr _=>?_)
 obtain ⟨x0,rfl⟩:=List.length_eq_one_iff.1 hr
 by_cases h1:e.k=f.k
 rotate_left
 ·have e1:decide (e.k=f.k)=false:=decide_eq_false h1
  rw [show decide (sameE e f)=false from decide_eq_false fun h=>h1 h.1]
  (repeat show _∧_;first|refine yr ?_|refine yt ?_|refine yf ?_|refine ya e1 ?_|refine yb e1 ?_|refine yo ?_)
  exact ⟨.a (.c (.bool false)),[[.past W ms]],⟨[0],⟨rfl,rfl,rfl⟩,by (repeat first|exact trivial|refine ent1 ?_)⟩,rfl,rfl⟩
 have e1:decide (e.k=f.k)=true:=decide_eq_true h1
 by_cases h2:e.t=f.t
 rotate_left
 ·have e2:decide (e.t=f.t)=false:=decide_eq_false h2
  rw [show decide (sameE e f)=false from decide_eq_false fun h=>h2 h.2.1]
  (repeat show _∧_;first|refine yr ?_|refine yt ?_|refine yf ?_|refine ya e1 ?_|refine yb e1 ?_|refine ya e2 ?_|refine yb e2 ?_|refine yo ?_)
  exact ⟨.a (.c (.bool false)),[[.past W ms]],⟨[0],⟨rfl,rfl,rfl⟩,by (repeat first|exact trivial|refine ent1 ?_)⟩,rfl,rfl⟩
 have e2:decide (e.t=f.t)=true:=decide_eq_true h2
 (repeat show _∧_;first|refine yr ?_|refine yt ?_|refine yf ?_|refine ya e1 ?_|refine yb e1 ?_|refine ya e2 ?_|refine yb e2 ?_|refine yo ?_)
 refine call_same (fn_nequal hx.N hy.N) [0] rfl (by (repeat first|exact trivial|refine ent1 ?_)) (by (repeat first|exact trivial|refine ent1 ?_)) (fun _ _=>trivial) ?_
 rintro y' hs' ⟨rfl,rfl⟩
 by_cases h3:e.N=f.N
 rotate_left
 ·have e3:decide (e.N=f.N)=false:=decide_eq_false h3
  rw [show decide (sameE e f)=false from decide_eq_false fun h=>h3 h.2.2.1]
  (repeat show _∧_;first|refine yr ?_|refine yt ?_|refine yf ?_|refine ya e2 ?_|refine yb e2 ?_|refine ya e3 ?_|refine yb e3 ?_|refine yo ?_)
  exact ⟨.a (.c (.bool false)),[[.past W ms]],⟨[0],⟨rfl,rfl,rfl⟩,by (repeat first|exact trivial|refine ent1 ?_)⟩,rfl,rfl⟩
 have e3:decide (e.N=f.N)=true:=decide_eq_true h3
 (repeat show _∧_;first|refine yr ?_|refine yt ?_|refine yf ?_|refine ya e2 ?_|refine yb e2 ?_|refine ya e3 ?_|refine yb e3 ?_|refine yo ?_)
 refine call_same (fn_bequal hx.D hy.D) [0] rfl (by (repeat first|exact trivial|refine ent1 ?_)) (by (repeat first|exact trivial|refine ent1 ?_)) (fun _ _=>trivial) ?_
 rintro y' hs' ⟨rfl,rfl⟩
 rw [show decide (sameE e f)=decide (e.D=f.D) from decide_eq_decide.2 ⟨fun h=>h.2.2.2,fun h=>⟨h1,h2,h3,h⟩⟩]
 (repeat show _∧_;first|refine yr ?_|refine yt ?_|refine yf ?_|refine ya e3 ?_|refine yb e3 ?_|refine yo ?_)
 exact ⟨.a (.c (.bool (decide (e.D=f.D)))),[[.past W ms]],⟨[0],⟨rfl,rfl,rfl⟩,by (repeat first|exact trivial|refine ent1 ?_)⟩,rfl,rfl⟩
end Sx
end
section
namespace Sx
open Go.RowKit Sha Vi Js Ev Qj
end Sx
end
section
namespace Qj
open Sha Js Ev
theorem putL_snoc {pv:JT→Bs} (x:JT):∀ l:List JT,putL pv (l++[x])=putL pv l++((if l=[] then [] else [44#8])++pv x)
 | []=>rfl
 | [y]=>by
  show pv y++44#8::pv x=pv y++((if [y]=[] then [] else [44#8])++pv x)
  rw [if_neg (by simp)]; rfl
 | y::z::l=>by
  have ih:=putL_snoc (pv:=pv) x (z::l)
  rw [if_neg (by simp)] at ih ⊢
  have e:y::z::l++[x]=y::(z::l++[x]):=rfl
  rw [e,putL_cons pv y (z::l++[x]) (by simp),ih,putL_cons pv y (z::l) (by simp)]
  simp
theorem putO_snoc {pv:JT→Bs} (x:JT) (t:Bs):∀ (ns:List Bs) (l:List JT),ns.length=l.length→putO pv (ns++[t]) (l++[x])=putO pv ns l++((if l=[] then [] else [44#8])++(quote t++58#8::pv x))
 | [],[],_=>rfl
 | [],_::_,h=>by simp at h
 | _::_,[],h=>by simp at h
 | s::ns,[y],h=>by
  obtain rfl:ns=[]:=List.eq_nil_of_length_eq_zero (by simpa using h)
  show quote s++58#8::(pv y++44#8::(quote t++58#8::pv x))=quote s++58#8::pv y++((if [y]=[] then [] else [44#8])++(quote t++58#8::pv x))
  rw [if_neg (by simp)]; simp
 | s::ns,y::z::l,h=>by
  have ih:=putO_snoc (pv:=pv) x t ns (z::l) (by simpa using h)
  rw [if_neg (by simp)] at ih ⊢
  have e:y::z::l++[x]=y::(z::l++[x]):=rfl
  have e2:s::ns++[t]=s::(ns++[t]):=rfl
  rw [e,e2,putO_cons pv s (ns++[t]) y (z::l++[x]) (by simp),ih,putO_cons pv s ns y (z::l) (by simp)]
  simp
def ev1:Bs:=123#8::(quote timeB++[58#8])
def ev2:Bs:=44#8::(quote nameB++[58#8,34#8])
end Qj
end
section
namespace Sx
open Go.RowKit Sha Vi Js Ev Qj
theorem frc_atQ {x y:SC} {k:SC→Prop} (h:x=y) (hk:k y):frcSC x k:=by rw [h,frcSC_eq]; exact hk
theorem app_u8 (a b:Bs):U8 a++U8 b=U8 (a++b):=List.map_append.symm
end Sx
end
section
namespace Sx
open Go.RowKit Sha Vi Js

structure JC where
 a:Option Addr
 m:Nat
 c:Nat
 b:Option Addr
 p:Nat
 q:Nat
def jvS (v:JT) (x:JC):List Seg:=[.one (.w8 v.k),.one (.w64 v.n),.one (.str (U8 v.s)),.one (.slc x.a x.m x.c),.one (.slc x.b x.p x.q)]
def jc0:JC:=⟨none,0,0,none,0,0⟩
def TAt (W:World) (ms:List Nat):Nat→JT→JC→Prop
 | 0,v,x=>v.l=[]∧x.m=0∧StAt W ms x.b x.p x.q (v.ns.map U8)
 | d+1,v,x=>(v.l.length=x.m∧x.m≤x.c∧x.m≤9223372036854775807∧(x.a=none→x.c=0)∧∀ A,x.a=some A→x.m≠0→Unm W ms A∧∀ j e,v.l[j]?=some e→∃ y,ImAt W ms (A.add (j*5)) (flat (jvS e y))∧TAt W ms d e y)∧StAt W ms x.b x.p x.q (v.ns.map U8)
theorem TAt.later {W W':World} {ms ms':List Nat} (k:Later W ms W' ms'):∀ {d:Nat} {v:JT} {x:JC},TAt W ms d v x→TAt W' ms' d v x
 | 0,v,x,⟨h1,h2,h3⟩=>⟨h1,h2,h3.later k⟩
 | d+1,v,x,⟨⟨h1,h2,h3,h4,h5⟩,h6⟩=>⟨⟨h1,h2,h3,h4,fun A hA hm=>⟨((h5 A hA hm).1).later k,fun j e he=>let ⟨y,y1,y2⟩:=(h5 A hA hm).2 j e he; ⟨y,y1.later k,TAt.later k y2⟩⟩⟩,h6.later k⟩
theorem TAt.ns {W:World} {ms:List Nat}:∀ {d:Nat} {v:JT} {x:JC},TAt W ms d v x→StAt W ms x.b x.p x.q (v.ns.map U8)
 | 0,v,x,h=>h.2.2
 | d+1,v,x,h=>h.2
theorem TAt.len {W:World} {ms:List Nat}:∀ {d:Nat} {v:JT} {x:JC},TAt W ms d v x→v.l.length=x.m
 | 0,v,x,h=>by rw [h.1,h.2.1]; rfl
 | d+1,v,x,h=>h.1.1
theorem TAt.leaf {W:World} {ms:List Nat} {v:JT} (hl:v.l=[]) (hn:v.ns=[]):∀ d,TAt W ms d v jc0
 | 0=>⟨hl,rfl,by rw [hn]; exact SlAt.nul⟩
 | d+1=>⟨⟨by rw [hl]; rfl,Nat.le_refl _,by show 0≤_; omega,fun _=>rfl,fun A hA=>by cases hA⟩,by rw [hn]; exact SlAt.nul⟩
structure RowJ (W:World) (ms:List Nat) (d:Nat) (cs:List SC) (l:List JT):Prop where
 len:cs.length=l.length*5
 raw:∀ x∈cs,x.raw=x
 elt:∀ j e,l[j]?=some e→∃ y,(∀ (i:Nat) (x:SC),(flat (jvS e y))[i]?=some x→cs[j*5+i]?=some x)∧TAt W ms d e y
theorem RowJ.later {W W':World} {ms ms':List Nat} (k:Later W ms W' ms') {d:Nat} {cs:List SC} {l:List JT} (h:RowJ W ms d cs l):RowJ W' ms' d cs l :=
 ⟨h.len,h.raw,fun j e he=>let ⟨y,y1,y2⟩:=h.elt j e he; ⟨y,y1,y2.later k⟩⟩
theorem RowJ.nil {W:World} {ms:List Nat} {d:Nat}:RowJ W ms d [] []:=⟨rfl,by simp,fun j e he=>by simp at he⟩
theorem flat_jvS (v:JT) (x:JC):flat (jvS v x)=[.w8 v.k,.w64 v.n,.str (U8 v.s),.slc x.a x.m x.c,.slc x.b x.p x.q]:=rfl
theorem RowJ.snoc {W:World} {ms:List Nat} {d:Nat} {cs:List SC} {l:List JT} (h:RowJ W ms d cs l) {v:JT} {x:JC} (k:TAt W ms d v x):RowJ W ms d (cs++flat (jvS v x)) (l++[v]):=by
 refine ⟨by rw [List.length_append,List.length_append,h.len]; show l.length*5+5=(l.length+1)*5; omega,fun y hy=>?_,fun j e he=>?_⟩
 ·rcases List.mem_append.1 hy with hy|hy
  ·exact h.raw y hy
  ·rw [flat_jvS] at hy
   simp only [List.mem_cons,List.not_mem_nil,or_false] at hy
   rcases hy with rfl|rfl|rfl|rfl|rfl <;> rfl
 ·rcases Nat.lt_or_ge j l.length with hj|hj
  ·rw [List.getElem?_append_left hj] at he
   obtain ⟨y,y1,y2⟩:=h.elt j e he
   refine ⟨y,fun i z hz=>?_,y2⟩
   have:=y1 i z hz
   rw [List.getElem?_append_left ((List.getElem?_eq_some_iff.1 this).1)]
   exact this
  ·rw [List.getElem?_append_right hj] at he
   obtain ⟨hj0,rfl⟩:j-l.length=0∧v=e:=by
    cases e0:j-l.length with
    | zero=>rw [e0] at he; simp at he; exact ⟨rfl,he⟩
    | succ n=>rw [e0] at he; simp at he
   obtain rfl:j=l.length:=by omega
   refine ⟨x,fun i z hz=>?_,k⟩
   rw [← h.len,List.getElem?_append_right (by omega),Nat.add_sub_cancel_left]
   exact hz
end Sx
end
section
namespace Sx
open Go.RowKit
variable {C : Cx}

end Sx
end
section
namespace Sx
open Go.RowKit Sha Vi Js

theorem len1' {α:Type}:∀ {l:List α},l.length=1→∃ a,l=[a]
 | [a],_=>⟨a,rfl⟩
def psr (s:Bs) (k:Nat):List Seg:=[.one (.str (U8 s)),.one (.int .i64 (k:Int))]
set_option maxRecDepth 20000 in
theorem fn_peek (s:Bs) (k:Nat):Fn Tryd.prog tds 53 [psr s k] [.c (.p 0 0 0)] (fun _=>True) (fun y hs=>y=.a (.c (.w8 (L s k)))∧hs=[psr s k]):=by
 refine fn_of_body tds_ok follows_ Tryd.func53 rfl (t:=.a (.c (.p 0 0 0))::anys (Tryd.f53.ntmps-1)) rfl (fun w r0 hr0 _=>?_)
 obtain ⟨x0,rfl⟩:=len1' hr0
 by_cases h:k<s.length
 ·have e:decide ((((U8 s).length:Nat):Int)≤(k:Int))=false:=decide_eq_false (by rw [U8_len]; omega)
  refine ⟨none,[],[(0,true),(1,true),(2,true),(3,true),(4,true),(5,true),(6,true),(7,true),(8,true),(9,true)],[],by kernel_rfl,?_⟩
  (repeat show _∧_;first|refine yr ?_|refine yt ?_|refine yf ?_|refine ya e ?_|refine yb e ?_|refine yo ?_)
  refine ⟨none,[],[(0,true),(1,true),(2,true),(3,true),(4,true),(5,true),(6,true),(7,true),(8,true),(9,true)],[],by kernel_rfl,?_⟩
  (repeat show _∧_;first|refine yr ?_|refine yt ?_|refine yf ?_|refine ya e ?_|refine yb e ?_|refine yo ?_)
  refine And.intro ⟨by omega,by rw [U8_len]; omega⟩ ?_
  (repeat show _∧_;first|refine yr ?_|refine yt ?_|refine yf ?_|refine yo ?_)
  refine ⟨.a (.c (.w8 (L s k))),_,⟨[0],⟨rfl,rfl,rfl⟩,?_⟩,rfl,rfl⟩
  refine And.intro (U8_get s k h) ?_
  (repeat first|exact trivial|refine ent1 ?_)
 ·have e:decide ((((U8 s).length:Nat):Int)≤(k:Int))=true:=decide_eq_true (by rw [U8_len]; omega)
  refine ⟨none,[],[(0,true),(1,true),(2,true),(3,true),(4,true),(5,true),(6,true),(7,true),(8,true),(9,true)],[],by kernel_rfl,?_⟩
  (repeat show _∧_;first|refine yr ?_|refine yt ?_|refine yf ?_|refine ya e ?_|refine yb e ?_|refine yo ?_)
  refine ⟨.a (.c (.w8 (L s k))),_,⟨[0],⟨rfl,rfl,rfl⟩,?_⟩,rfl,rfl⟩
  refine And.intro (L_ge (by omega)).symm ?_
  (repeat first|exact trivial|refine ent1 ?_)
end Sx
end
section
namespace Sx
open Go.RowKit Sha Vi Js

theorem rowl {g:Nat→SC} {l:Bs} (i:Nat) (hi:i<l.length) (e:g i=nthC (l.map SC.w8) i):g i=.w8 (L l i):=e.trans (nthC_w8 l i hi)
theorem tail_u8 (m:Nat):128#8 ||| (BitVec.ofNat 8 m &&& 63#8)=b8 (128+m % 64):=by
 have key:∀ n:_root_.Fin 256,128#8 ||| (BitVec.ofNat 8 n.val &&& 63#8)=b8 (128+n.val % 64):=by decide +kernel
 have h:=key ⟨m % 256,by omega⟩
 have e:BitVec.ofNat 8 (m % 256)=BitVec.ofNat 8 m:=by
  apply BitVec.eq_of_toNat_eq
  rw [BitVec.toNat_ofNat,BitVec.toNat_ofNat]; omega
 rw [show (⟨m % 256,by omega⟩:_root_.Fin 256).val=m % 256 from rfl,e] at h
 rw [h,show m % 256 % 64=m % 64 by omega]
theorem div_i (v n:Nat):(v:Int) / 2 ^ n=((v / 2 ^ n:Nat):Int):=by push_cast; rfl
theorem of_i (v:Nat):BitVec.ofInt 8 (v:Int)=BitVec.ofNat 8 v:=BitVec.ofInt_natCast 8 v
theorem enc_two {v:Nat} (h1:128≤v) (h2:v<2048):enc v=[192#8 ||| BitVec.ofInt 8 ((v:Int) / 2 ^ 6),128#8 ||| (BitVec.ofInt 8 (v:Int) &&& 63#8)]:=by
 have k1:∀ n:_root_.Fin 32,192#8 ||| BitVec.ofNat 8 n.val=b8 (192+n.val):=by decide +kernel
 have h3:=k1 ⟨v / 2 ^ 6,by omega⟩
 rw [div_i,of_i,of_i,tail_u8,h3]
 unfold enc
 rw [if_neg (by omega),if_pos h2]
theorem enc_three {v:Nat} (h1:2048≤v) (h2:v<65536):enc v=[224#8 ||| BitVec.ofInt 8 ((v:Int) / 2 ^ 12),128#8 ||| (BitVec.ofInt 8 ((v:Int) / 2 ^ 6) &&& 63#8),128#8 ||| (BitVec.ofInt 8 (v:Int) &&& 63#8)]:=by
 have k1:∀ n:_root_.Fin 16,224#8 ||| BitVec.ofNat 8 n.val=b8 (224+n.val):=by decide +kernel
 have h3:=k1 ⟨v / 2 ^ 12,by omega⟩
 rw [div_i,div_i,of_i,of_i,of_i,tail_u8,tail_u8,h3]
 unfold enc
 rw [if_neg (by omega),if_neg (by omega),if_pos h2]
theorem enc_four {v:Nat} (h1:65536≤v) (h2:v≤1114111):enc v=[240#8 ||| BitVec.ofInt 8 ((v:Int) / 2 ^ 18),128#8 ||| (BitVec.ofInt 8 ((v:Int) / 2 ^ 12) &&& 63#8),128#8 ||| (BitVec.ofInt 8 ((v:Int) / 2 ^ 6) &&& 63#8),128#8 ||| (BitVec.ofInt 8 (v:Int) &&& 63#8)]:=by
 have k1:∀ n:_root_.Fin 8,240#8 ||| BitVec.ofNat 8 n.val=b8 (240+n.val):=by decide +kernel
 have h3:=k1 ⟨v / 2 ^ 18,by omega⟩
 rw [div_i,div_i,div_i,of_i,of_i,of_i,of_i,tail_u8,tail_u8,tail_u8,h3]
 unfold enc
 rw [if_neg (by omega),if_neg (by omega),if_neg (by omega)]
theorem enc_one' {v:Nat} (h1:v<128):enc v=[BitVec.ofInt 8 (v:Int)]:=by
 rw [of_i]; unfold enc; rw [if_pos h1]; rfl
theorem le32 {v c:Nat} (hv:v≤1114111) (hc:c<4294967296):decide (BitVec.ofInt 32 (v:Int)≤BitVec.ofNat 32 c)=decide (v≤c):=by
 refine decide_eq_decide.2 ?_
 rw [BitVec.ofInt_natCast,BitVec.le_def,BitVec.toNat_ofNat,BitVec.toNat_ofNat,Nat.mod_eq_of_lt (by omega),Nat.mod_eq_of_lt (by omega)]
theorem lt32 {v c:Nat} (hv:v≤1114111) (hc:c<4294967296):decide (BitVec.ofInt 32 (v:Int)<BitVec.ofNat 32 c)=decide (v<c):=by
 refine decide_eq_decide.2 ?_
 rw [BitVec.ofInt_natCast,BitVec.lt_def,BitVec.toNat_ofNat,BitVec.toNat_ofNat,Nat.mod_eq_of_lt (by omega),Nat.mod_eq_of_lt (by omega)]
theorem gt32 {v c:Nat} (hv:v≤1114111) (hc:c<4294967296):decide (BitVec.ofNat 32 c<BitVec.ofInt 32 (v:Int))=decide (c<v):=by
 refine decide_eq_decide.2 ?_
 rw [BitVec.ofInt_natCast,BitVec.lt_def,BitVec.toNat_ofNat,BitVec.toNat_ofNat,Nat.mod_eq_of_lt (by omega),Nat.mod_eq_of_lt (by omega)]
set_option maxRecDepth 20000 in
set_option maxHeartbeats 8000000 in
theorem fn_arunen0 {v:Nat} (hv:scal v) (hn:128≤v):Fn Tryd.prog tds 80 [] [.c (.slc none 0 0),.c (.int .i32 (v:Int))] (fun _=>True)
  (fun x hs=>∃ c',(enc v).length≤c'∧x=.a (.c (.sl 0 0 0 (enc v).length c'))∧hs=[lsC (enc v) c']):=by
 refine fn_of_body tds_ok follows_ Tryd.func80 rfl (t:=.a (.c (.slc none 0 0))::.a (.c (.int .i32 (v:Int)))::anys (Tryd.f80.ntmps-2)) rfl (fun w r0 hr _=>?_)
 obtain rfl:r0=[]:=List.eq_nil_of_length_eq_zero hr
 have hm:v≤1114111:=by unfold scal at hv; omega
 by_cases h1:v≤2047
 ·have e1:decide (BitVec.ofInt 32 (v:Int)≤2047#32)=true:=(le32 hm (by decide)).trans (decide_eq_true h1)
  have hE:=enc_two (v:=v) hn (by omega)
  have hEl:(enc v).length=2:=by rw [hE]; rfl
  (repeat show _∧_;first|refine yr ?_|refine yt ?_|refine yf ?_|refine ya e1 ?_|refine yb e1 ?_|refine yo ?_)
  intro c' hc'
  (repeat show _∧_;first|refine yr ?_|refine yt ?_|refine yf ?_|refine yo ?_)
  refine ⟨.a (.c (.sl 0 0 0 (enc v).length c')),_,⟨[1],⟨rfl,rfl,rfl⟩,?_⟩,c',by omega,rfl,rfl⟩
  (repeat first|exact trivial|refine ent1 ?_)
  refine ⟨fun j' hj'=>eqC_bytes (fun i hi=>?_) j',trivial⟩
  rw [hE] at hi ⊢
  exact new_row (fun i hi=>nthC_w8 _ i hi) i hi
 have e1:decide (BitVec.ofInt 32 (v:Int)≤2047#32)=false:=(le32 hm (by decide)).trans (decide_eq_false h1)
 by_cases h2:v<55296
 ·have e2:decide (BitVec.ofInt 32 (v:Int)<55296#32)=true:=(lt32 hm (by decide)).trans (decide_eq_true h2)
  have hE:=enc_three (v:=v) (by omega) (by omega)
  have hEl:(enc v).length=3:=by rw [hE]; rfl
  (repeat show _∧_;first|refine yr ?_|refine yt ?_|refine yf ?_|refine ya e1 ?_|refine yb e1 ?_|refine ya e2 ?_|refine yb e2 ?_|refine yo ?_)
  intro c' hc'
  (repeat show _∧_;first|refine yr ?_|refine yt ?_|refine yf ?_|refine yo ?_)
  refine ⟨.a (.c (.sl 0 0 0 (enc v).length c')),_,⟨[1],⟨rfl,rfl,rfl⟩,?_⟩,c',by omega,rfl,rfl⟩
  (repeat first|exact trivial|refine ent1 ?_)
  refine ⟨fun j' hj'=>eqC_bytes (fun i hi=>?_) j',trivial⟩
  rw [hE] at hi ⊢
  exact new_row (fun i hi=>nthC_w8 _ i hi) i hi
 have e2:decide (BitVec.ofInt 32 (v:Int)<55296#32)=false:=(lt32 hm (by decide)).trans (decide_eq_false h2)
 have h3:57343<v:=by unfold scal at hv; omega
 have e3:decide (57343#32<BitVec.ofInt 32 (v:Int))=true:=(gt32 hm (by decide)).trans (decide_eq_true h3)
 by_cases h4:v≤65535
 ·have e4:decide (BitVec.ofInt 32 (v:Int)≤65535#32)=true:=(le32 hm (by decide)).trans (decide_eq_true h4)
  have hE:=enc_three (v:=v) (by omega) (by omega)
  have hEl:(enc v).length=3:=by rw [hE]; rfl
  (repeat show _∧_;first|refine yr ?_|refine yt ?_|refine yf ?_|refine ya e1 ?_|refine yb e1 ?_|refine ya e2 ?_|refine yb e2 ?_|refine ya e3 ?_|refine yb e3 ?_|refine ya e4 ?_|refine yb e4 ?_|refine yo ?_)
  intro c' hc'
  (repeat show _∧_;first|refine yr ?_|refine yt ?_|refine yf ?_|refine yo ?_)
  refine ⟨.a (.c (.sl 0 0 0 (enc v).length c')),_,⟨[1],⟨rfl,rfl,rfl⟩,?_⟩,c',by omega,rfl,rfl⟩
  (repeat first|exact trivial|refine ent1 ?_)
  refine ⟨fun j' hj'=>eqC_bytes (fun i hi=>?_) j',trivial⟩
  rw [hE] at hi ⊢
  exact new_row (fun i hi=>nthC_w8 _ i hi) i hi
 have e4:decide (BitVec.ofInt 32 (v:Int)≤65535#32)=false:=(le32 hm (by decide)).trans (decide_eq_false h4)
 have e5:decide (65535#32<BitVec.ofInt 32 (v:Int))=true:=(gt32 hm (by decide)).trans (decide_eq_true (by omega))
 have e6:decide (BitVec.ofInt 32 (v:Int)≤1114111#32)=true:=(le32 hm (by decide)).trans (decide_eq_true hm)
 have hE:=enc_four (v:=v) (by omega) hm
 have hEl:(enc v).length=4:=by rw [hE]; rfl
 (repeat show _∧_;first|refine yr ?_|refine yt ?_|refine yf ?_|refine ya e1 ?_|refine yb e1 ?_|refine ya e2 ?_|refine yb e2 ?_|refine ya e3 ?_|refine yb e3 ?_|refine ya e4 ?_|refine yb e4 ?_|refine ya e5 ?_|refine yb e5 ?_|refine ya e6 ?_|refine yb e6 ?_|refine yo ?_)
 intro c' hc'
 (repeat show _∧_;first|refine yr ?_|refine yt ?_|refine yf ?_|refine yo ?_)
 refine ⟨.a (.c (.sl 0 0 0 (enc v).length c')),_,⟨[1],⟨rfl,rfl,rfl⟩,?_⟩,c',by omega,rfl,rfl⟩
 (repeat first|exact trivial|refine ent1 ?_)
 refine ⟨fun j' hj'=>eqC_bytes (fun i hi=>?_) j',trivial⟩
 rw [hE] at hi ⊢
 exact new_row (fun i hi=>nthC_w8 _ i hi) i hi
set_option maxRecDepth 20000 in
set_option maxHeartbeats 8000000 in
theorem fn_arunen (b:Bs) (c:Nat) (hb:b.length≤70368744177664) (hc:b.length≤c) {v:Nat} (hv:scal v) (hn:128≤v):Fn Tryd.prog tds 80 [lsC b c] [.c (.sl 0 0 0 b.length c),.c (.int .i32 (v:Int))] (fun _=>True)
  (fun x hs=>∃ c',(b++enc v).length≤c'∧x=.a (.c (.sl 1 0 0 (b++enc v).length c'))∧hs=[[],lsC (b++enc v) c']):=by
 refine fn_of_body tds_ok follows_ Tryd.func80 rfl (t:=.a (.c (.sl 0 0 0 b.length c))::.a (.c (.int .i32 (v:Int)))::anys (Tryd.f80.ntmps-2)) rfl (fun w r0 hr _=>?_)
 obtain ⟨x0,rfl⟩:=len1' hr
 have hm:v≤1114111:=by unfold scal at hv; omega
 by_cases h1:v≤2047
 ·have e1:decide (BitVec.ofInt 32 (v:Int)≤2047#32)=true:=(le32 hm (by decide)).trans (decide_eq_true h1)
  have hE:=enc_two (v:=v) hn (by omega)
  have hEl:(enc v).length=2:=by rw [hE]; rfl
  have hbl:(b++enc v).length=b.length+2:=by rw [List.length_append,hEl]
  (repeat show _∧_;first|refine yr ?_|refine yt ?_|refine yf ?_|refine ya e1 ?_|refine yb e1 ?_|refine yo ?_)
  refine And.intro ⟨by omega,by simp only [scale]; omega,by show (b.length+2)*1≤140737488355328; omega⟩ ?_
  intro c' hc'
  (repeat show _∧_;first|refine yr ?_|refine yt ?_|refine yf ?_|refine yo ?_)
  refine ⟨.a (.c (.sl 1 0 0 (b++enc v).length c')),_,⟨[0,2],⟨rfl,rfl,rfl⟩,?_⟩,c',by rw [List.length_append]; omega,rfl,rfl⟩
  (repeat first|exact trivial|refine ent1 ?_)
  refine ⟨fun j' hj'=>eqC_bytes (fun i hi=>?_) j',trivial⟩
  have hi':i<b.length+2:=by rw [List.length_append] at hi; omega
  rw [hE]
  refine app_row (l:=b) (n:=b.length) (k:=2) rfl ?_ (fun i hi=>bytesF_lt hi) (fun i hi=>?_) i hi'
  ·rfl
  ·exact rowl i (by exact hi) rfl
 have e1:decide (BitVec.ofInt 32 (v:Int)≤2047#32)=false:=(le32 hm (by decide)).trans (decide_eq_false h1)
 by_cases h2:v<55296
 ·have e2:decide (BitVec.ofInt 32 (v:Int)<55296#32)=true:=(lt32 hm (by decide)).trans (decide_eq_true h2)
  have hE:=enc_three (v:=v) (by omega) (by omega)
  have hEl:(enc v).length=3:=by rw [hE]; rfl
  have hbl:(b++enc v).length=b.length+3:=by rw [List.length_append,hEl]
  (repeat show _∧_;first|refine yr ?_|refine yt ?_|refine yf ?_|refine ya e1 ?_|refine yb e1 ?_|refine ya e2 ?_|refine yb e2 ?_|refine yo ?_)
  refine And.intro ⟨by omega,by simp only [scale]; omega,by show (b.length+3)*1≤140737488355328; omega⟩ ?_
  intro c' hc'
  (repeat show _∧_;first|refine yr ?_|refine yt ?_|refine yf ?_|refine yo ?_)
  refine ⟨.a (.c (.sl 1 0 0 (b++enc v).length c')),_,⟨[0,2],⟨rfl,rfl,rfl⟩,?_⟩,c',by rw [List.length_append]; omega,rfl,rfl⟩
  (repeat first|exact trivial|refine ent1 ?_)
  refine ⟨fun j' hj'=>eqC_bytes (fun i hi=>?_) j',trivial⟩
  have hi':i<b.length+3:=by rw [List.length_append] at hi; omega
  rw [hE]
  refine app_row (l:=b) (n:=b.length) (k:=3) rfl ?_ (fun i hi=>bytesF_lt hi) (fun i hi=>?_) i hi'
  ·rfl
  ·exact rowl i (by exact hi) rfl
 have e2:decide (BitVec.ofInt 32 (v:Int)<55296#32)=false:=(lt32 hm (by decide)).trans (decide_eq_false h2)
 have h3:57343<v:=by unfold scal at hv; omega
 have e3:decide (57343#32<BitVec.ofInt 32 (v:Int))=true:=(gt32 hm (by decide)).trans (decide_eq_true h3)
 by_cases h4:v≤65535
 ·have e4:decide (BitVec.ofInt 32 (v:Int)≤65535#32)=true:=(le32 hm (by decide)).trans (decide_eq_true h4)
  have hE:=enc_three (v:=v) (by omega) (by omega)
  have hEl:(enc v).length=3:=by rw [hE]; rfl
  have hbl:(b++enc v).length=b.length+3:=by rw [List.length_append,hEl]
  (repeat show _∧_;first|refine yr ?_|refine yt ?_|refine yf ?_|refine ya e1 ?_|refine yb e1 ?_|refine ya e2 ?_|refine yb e2 ?_|refine ya e3 ?_|refine yb e3 ?_|refine ya e4 ?_|refine yb e4 ?_|refine yo ?_)
  refine And.intro ⟨by omega,by simp only [scale]; omega,by show (b.length+3)*1≤140737488355328; omega⟩ ?_
  intro c' hc'
  (repeat show _∧_;first|refine yr ?_|refine yt ?_|refine yf ?_|refine yo ?_)
  refine ⟨.a (.c (.sl 1 0 0 (b++enc v).length c')),_,⟨[0,2],⟨rfl,rfl,rfl⟩,?_⟩,c',by rw [List.length_append]; omega,rfl,rfl⟩
  (repeat first|exact trivial|refine ent1 ?_)
  refine ⟨fun j' hj'=>eqC_bytes (fun i hi=>?_) j',trivial⟩
  have hi':i<b.length+3:=by rw [List.length_append] at hi; omega
  rw [hE]
  refine app_row (l:=b) (n:=b.length) (k:=3) rfl ?_ (fun i hi=>bytesF_lt hi) (fun i hi=>?_) i hi'
  ·rfl
  ·exact rowl i (by exact hi) rfl
 have e4:decide (BitVec.ofInt 32 (v:Int)≤65535#32)=false:=(le32 hm (by decide)).trans (decide_eq_false h4)
 have e5:decide (65535#32<BitVec.ofInt 32 (v:Int))=true:=(gt32 hm (by decide)).trans (decide_eq_true (by omega))
 have e6:decide (BitVec.ofInt 32 (v:Int)≤1114111#32)=true:=(le32 hm (by decide)).trans (decide_eq_true hm)
 have hE:=enc_four (v:=v) (by omega) hm
 have hEl:(enc v).length=4:=by rw [hE]; rfl
 have hbl:(b++enc v).length=b.length+4:=by rw [List.length_append,hEl]
 (repeat show _∧_;first|refine yr ?_|refine yt ?_|refine yf ?_|refine ya e1 ?_|refine yb e1 ?_|refine ya e2 ?_|refine yb e2 ?_|refine ya e3 ?_|refine yb e3 ?_|refine ya e4 ?_|refine yb e4 ?_|refine ya e5 ?_|refine yb e5 ?_|refine ya e6 ?_|refine yb e6 ?_|refine yo ?_)
 refine And.intro ⟨by omega,by simp only [scale]; omega,by show (b.length+4)*1≤140737488355328; omega⟩ ?_
 intro c' hc'
 (repeat show _∧_;first|refine yr ?_|refine yt ?_|refine yf ?_|refine yo ?_)
 refine ⟨.a (.c (.sl 1 0 0 (b++enc v).length c')),_,⟨[0,2],⟨rfl,rfl,rfl⟩,?_⟩,c',by rw [List.length_append]; omega,rfl,rfl⟩
 (repeat first|exact trivial|refine ent1 ?_)
 refine ⟨fun j' hj'=>eqC_bytes (fun i hi=>?_) j',trivial⟩
 have hi':i<b.length+4:=by rw [List.length_append] at hi; omega
 rw [hE]
 refine app_row (l:=b) (n:=b.length) (k:=4) rfl ?_ (fun i hi=>bytesF_lt hi) (fun i hi=>?_) i hi'
 ·rfl
 ·exact rowl i (by exact hi) rfl
set_option maxRecDepth 20000 in
set_option maxHeartbeats 8000000 in
theorem fn_arune0 {v:Nat} (hv:scal v):Fn Tryd.prog tds 70 [] [.c (.slc none 0 0),.c (.int .i32 (v:Int))] (fun _=>True)
  (fun x hs=>∃ c',(enc v).length≤c'∧x=.a (.c (.sl 0 0 0 (enc v).length c'))∧hs=[lsC (enc v) c']):=by
 refine fn_of_body tds_ok follows_ Tryd.func70 rfl (t:=.a (.c (.slc none 0 0))::.a (.c (.int .i32 (v:Int)))::anys (Tryd.f70.ntmps-2)) rfl (fun w r0 hr _=>?_)
 obtain rfl:r0=[]:=List.eq_nil_of_length_eq_zero hr
 have hm:v≤1114111:=by unfold scal at hv; omega
 by_cases h1:v≤127
 ·have e1:decide (BitVec.ofInt 32 (v:Int)≤127#32)=true:=(le32 hm (by decide)).trans (decide_eq_true h1)
  have hE:=enc_one' (v:=v) (by omega)
  have hEl:(enc v).length=1:=by rw [hE]; rfl
  (repeat show _∧_;first|refine yr ?_|refine yt ?_|refine yf ?_|refine ya e1 ?_|refine yb e1 ?_|refine yo ?_)
  intro c' hc'
  (repeat show _∧_;first|refine yr ?_|refine yt ?_|refine yf ?_|refine yo ?_)
  refine ⟨.a (.c (.sl 0 0 0 (enc v).length c')),_,⟨[1],⟨rfl,rfl,rfl⟩,?_⟩,c',by omega,rfl,rfl⟩
  (repeat first|exact trivial|refine ent1 ?_)
  refine ⟨fun j' hj'=>eqC_bytes (fun i hi=>?_) j',trivial⟩
  rw [hE] at hi ⊢
  exact new_row (fun i hi=>nthC_w8 _ i hi) i hi
 have e1:decide (BitVec.ofInt 32 (v:Int)≤127#32)=false:=(le32 hm (by decide)).trans (decide_eq_false h1)
 (repeat show _∧_;first|refine yr ?_|refine yt ?_|refine yf ?_|refine ya e1 ?_|refine yb e1 ?_|refine yo ?_)
 refine call_same (fn_arunen0 hv (by omega)) [] rfl (by (repeat first|exact trivial|refine ent1 ?_)) trivial (fun _ _=>trivial) ?_
 rintro x hs' ⟨c',g1,rfl,rfl⟩
 refine ⟨.a (.c (.sl 0 0 0 (enc v).length c')),_,⟨[0],⟨rfl,rfl,rfl⟩,?_⟩,c',g1,rfl,rfl⟩
 (repeat first|exact trivial|refine ent1 ?_)
set_option maxRecDepth 20000 in
set_option maxHeartbeats 8000000 in
theorem fn_arune (b:Bs) (c:Nat) (hb:b.length≤70368744177664) (hc:b.length≤c) {v:Nat} (hv:scal v):Fn Tryd.prog tds 70 [lsC b c] [.c (.sl 0 0 0 b.length c),.c (.int .i32 (v:Int))] (fun _=>True)
  (fun x hs=>∃ c',(b++enc v).length≤c'∧x=.a (.c (.sl 1 0 0 (b++enc v).length c'))∧hs=[[],lsC (b++enc v) c']):=by
 refine fn_of_body tds_ok follows_ Tryd.func70 rfl (t:=.a (.c (.sl 0 0 0 b.length c))::.a (.c (.int .i32 (v:Int)))::anys (Tryd.f70.ntmps-2)) rfl (fun w r0 hr _=>?_)
 obtain ⟨x0,rfl⟩:=len1' hr
 have hm:v≤1114111:=by unfold scal at hv; omega
 by_cases h1:v≤127
 ·have e1:decide (BitVec.ofInt 32 (v:Int)≤127#32)=true:=(le32 hm (by decide)).trans (decide_eq_true h1)
  have hE:=enc_one' (v:=v) (by omega)
  have hEl:(enc v).length=1:=by rw [hE]; rfl
  have hbl:(b++enc v).length=b.length+1:=by rw [List.length_append,hEl]
  (repeat show _∧_;first|refine yr ?_|refine yt ?_|refine yf ?_|refine ya e1 ?_|refine yb e1 ?_|refine yo ?_)
  refine And.intro ⟨by omega,by simp only [scale]; omega,by show (b.length+1)*1≤140737488355328; omega⟩ ?_
  intro c' hc'
  (repeat show _∧_;first|refine yr ?_|refine yt ?_|refine yf ?_|refine yo ?_)
  refine ⟨.a (.c (.sl 1 0 0 (b++enc v).length c')),_,⟨[0,2],⟨rfl,rfl,rfl⟩,?_⟩,c',by rw [List.length_append]; omega,rfl,rfl⟩
  (repeat first|exact trivial|refine ent1 ?_)
  refine ⟨fun j' hj'=>eqC_bytes (fun i hi=>?_) j',trivial⟩
  have hi':i<b.length+1:=by rw [List.length_append] at hi; omega
  rw [hE]
  refine app_row (l:=b) (n:=b.length) (k:=1) rfl ?_ (fun i hi=>bytesF_lt hi) (fun i hi=>?_) i hi'
  ·rfl
  ·exact rowl i (by exact hi) rfl
 have e1:decide (BitVec.ofInt 32 (v:Int)≤127#32)=false:=(le32 hm (by decide)).trans (decide_eq_false h1)
 (repeat show _∧_;first|refine yr ?_|refine yt ?_|refine yf ?_|refine ya e1 ?_|refine yb e1 ?_|refine yo ?_)
 refine call_same (fn_arunen b c hb hc hv (by omega)) [0] rfl (by (repeat first|exact trivial|refine ent1 ?_)) (by (repeat first|exact trivial|refine ent1 ?_)) (fun _ _=>trivial) ?_
 rintro x hs' ⟨c',g1,rfl,rfl⟩
 refine ⟨.a (.c (.sl 1 0 0 (b++enc v).length c')),_,⟨[0,1],⟨rfl,rfl,rfl⟩,?_⟩,c',g1,rfl,rfl⟩
 (repeat first|exact trivial|refine ent1 ?_)
end Sx
end
end Go.Proofs.YtnehmcpkeamghaaDoor
section
namespace Go.Proofs.YtnehmcpkeamghaaDoor
set_option linter.unusedVariables false
def p10n:String:=(Rows.jsonAnyRow.named)[2]!
end Go.Proofs.YtnehmcpkeamghaaDoor
namespace Go.Proofs
open Go.Shelf
def Tryd.lays137_ren:Go.Shelf.Ren:=⟨fun|137=>59|217=>74|266=>82|n=>n,fun|9=>9|5=>5|3=>3|n=>n,fun|n=>n⟩
theorem Tryd.lays137:Go.Proofs.Lays.n137 Tryd.prog Tryd.lays137_ren:={
 mixed:=by kernel_rfl
 f137:=Tryd.func59.trans (congrArg some (by kernel_rfl))
 f217:=Tryd.func74.trans (congrArg some (by kernel_rfl))
 f266:=Tryd.func82.trans (congrArg some (by kernel_rfl))
 t3:=Tryd.underlying3
 a3:=Tryd.isAgg3
 z3:=Tryd.sizeOf3
 v3:=Tryd.zeroValue3
 t5:=Tryd.underlying5
 a5:=Tryd.isAgg5
 z5:=Tryd.sizeOf5
 v5:=Tryd.zeroValue5
 t9:=Tryd.underlying9
 a9:=Tryd.isAgg9
 z9:=Tryd.sizeOf9
 v9:=Tryd.zeroValue9 }
open Go.RowKit in
theorem Tryd.strings_IndexByte (s:ByteArray) (c:Int) (w:World) :
  Calls Tryd.prog 59 #[.string s,.int .u8 c] w fun e w'=>e=.returned (.int .i64 (Lib.indexByte s.data.toList c.toNat.toUInt8))∧w'=w:=Any.strings_IndexByte Tryd.lays137 s c w
def Tryd.lays283_ren:Go.Shelf.Ren:=⟨fun|283=>83|n=>n,fun|3=>3|9=>9|4=>4|n=>n,fun|n=>n⟩
theorem Tryd.lays283:Go.Proofs.Lays.n283 Tryd.prog Tryd.lays283_ren:={
 mixed:=by kernel_rfl
 f283:=Tryd.func83.trans (congrArg some (by kernel_rfl))
 t3:=Tryd.underlying3
 a3:=Tryd.isAgg3
 z3:=Tryd.sizeOf3
 v3:=Tryd.zeroValue3
 t4:=Tryd.underlying4
 a4:=Tryd.isAgg4
 z4:=Tryd.sizeOf4
 v4:=Tryd.zeroValue4
 t9:=Tryd.underlying9
 a9:=Tryd.isAgg9
 z9:=Tryd.sizeOf9
 v9:=Tryd.zeroValue9 }
open Go.Lib in
theorem Tryd.internal_strconv_small (i:Nat) (h:i<100) (w:World) :
  Calls Tryd.prog 83 #[.int .i64 i] w fun e w'=>e=.returned (.string ⟨(Lib.decDigits i).toArray⟩)∧w'=w:=Any.internal_strconv_small Tryd.lays283 i h w
def Tryd.laysM284_ren:Go.Shelf.Ren:=⟨fun|284=>84|129=>89|317=>88|318=>90|n=>n,fun|53=>23|3=>3|212=>156|0=>0|4=>4|46=>108|5=>5|9=>9|n=>n,fun|17=>3|n=>n⟩
theorem Tryd.laysM284:Go.Proofs.LaysM.n284 Tryd.prog Tryd.laysM284_ren:={
 mixed:=by kernel_rfl
 f129:=Tryd.func89.trans (congrArg some (by kernel_rfl))
 f284:=Tryd.func84.trans (congrArg some (by kernel_rfl))
 f317:=Tryd.func88.trans (congrArg some (by kernel_rfl))
 f318:=Tryd.func90.trans (congrArg some (by kernel_rfl))
 t0:=Tryd.underlying0
 a0:=Tryd.isAgg0
 z0:=Tryd.sizeOf0
 v0:=Tryd.zeroValue0
 t3:=Tryd.underlying3
 a3:=Tryd.isAgg3
 z3:=Tryd.sizeOf3
 v3:=Tryd.zeroValue3
 t4:=Tryd.underlying4
 a4:=Tryd.isAgg4
 z4:=Tryd.sizeOf4
 v4:=Tryd.zeroValue4
 t5:=Tryd.underlying5
 a5:=Tryd.isAgg5
 z5:=Tryd.sizeOf5
 v5:=Tryd.zeroValue5
 t9:=Tryd.underlying9
 a9:=Tryd.isAgg9
 z9:=Tryd.sizeOf9
 v9:=Tryd.zeroValue9
 t46:=Tryd.underlying108
 a46:=Tryd.isAgg108
 z46:=Tryd.sizeOf108
 v46:=Tryd.zeroValue108
 t53:=Tryd.underlying23
 a53:=Tryd.isAgg23
 z53:=Tryd.sizeOf23
 v53:=Tryd.zeroValue23
 t212:=Tryd.underlying156
 a212:=Tryd.isAgg156
 z212:=Tryd.sizeOf156
 v212:=Tryd.zeroValue156
 g17:=by kernel_rfl
 i0:=by kernel_rfl
 i3:=by kernel_rfl
 i4:=by kernel_rfl
 i5:=by kernel_rfl
 i9:=by kernel_rfl
 i46:=by kernel_rfl
 i53:=by kernel_rfl
 i212:=by kernel_rfl
 m17:=by kernel_rfl }
open Go.Lib in
theorem Tryd.internal_strconv_numDigits (u:Nat) (h1:1≤u) (h2:u<18446744073709551616) (w:World) (htab:Lib.TabIs Tryd.prog w YtnehmcpkeamghaaDoor.p10n .u64 Lib.pow10Tab) :
  Calls Tryd.prog 84 #[.int .u64 u] w fun e w'=>e=.returned (.int .i64 (Lib.nDigits u))∧w'=w:=Any.internal_strconv_numDigits Tryd.laysM284 u h1 h2 w htab
def Tryd.lays197_ren:Go.Shelf.Ren:=⟨fun|197=>71|260=>81|n=>n,fun|9=>9|21=>21|3=>3|4=>4|5=>5|105=>134|119=>140|0=>0|46=>108|139=>143|138=>142|n=>n,fun|3=>0|4=>1|n=>n⟩
theorem Tryd.lays197:Go.Proofs.Lays.n197 Tryd.prog Tryd.lays197_ren:={
 mixed:=by kernel_rfl
 f197:=Tryd.func71.trans (congrArg some (by kernel_rfl))
 f260:=Tryd.func81.trans (congrArg some (by kernel_rfl))
 t0:=Tryd.underlying0
 a0:=Tryd.isAgg0
 z0:=Tryd.sizeOf0
 v0:=Tryd.zeroValue0
 t3:=Tryd.underlying3
 a3:=Tryd.isAgg3
 z3:=Tryd.sizeOf3
 v3:=Tryd.zeroValue3
 t4:=Tryd.underlying4
 a4:=Tryd.isAgg4
 z4:=Tryd.sizeOf4
 v4:=Tryd.zeroValue4
 t5:=Tryd.underlying5
 a5:=Tryd.isAgg5
 z5:=Tryd.sizeOf5
 v5:=Tryd.zeroValue5
 t9:=Tryd.underlying9
 a9:=Tryd.isAgg9
 z9:=Tryd.sizeOf9
 v9:=Tryd.zeroValue9
 t21:=Tryd.underlying21
 a21:=Tryd.isAgg21
 z21:=Tryd.sizeOf21
 v21:=Tryd.zeroValue21
 t46:=Tryd.underlying108
 a46:=Tryd.isAgg108
 z46:=Tryd.sizeOf108
 v46:=Tryd.zeroValue108
 t105:=Tryd.underlying134
 a105:=Tryd.isAgg134
 z105:=Tryd.sizeOf134
 v105:=Tryd.zeroValue134
 t119:=Tryd.underlying140
 a119:=Tryd.isAgg140
 z119:=Tryd.sizeOf140
 t138:=Tryd.underlying142
 a138:=Tryd.isAgg142
 z138:=Tryd.sizeOf142
 v138:=Tryd.zeroValue142
 t139:=Tryd.underlying143
 a139:=Tryd.isAgg143
 z139:=Tryd.sizeOf143
 v139:=Tryd.zeroValue143
 g3:=by kernel_rfl
 g4:=by kernel_rfl }
open Go.RowKit Go.Lib in
theorem Tryd.utf8_DecodeRuneInString (s:ByteArray) (w:World) (hT:Lib.Utf8Tabs 0 1 w) :
  Calls Tryd.prog 71 #[.string s] w fun e w'=>e=.returned (.tuple #[.int .i32 (Lib.decodeGo s).1,.int .i64 (Lib.decodeGo s).2])∧Below w.heap.size w w':=Any.utf8_DecodeRuneInString Tryd.lays197 s w hT
def Tryd.lays196_ren:Go.Shelf.Ren:=⟨fun|196=>65|259=>77|n=>n,fun|9=>9|4=>4|3=>3|5=>5|12=>12|119=>140|0=>0|46=>108|139=>143|138=>142|53=>23|n=>n,fun|3=>0|4=>1|n=>n⟩
theorem Tryd.lays196:Go.Proofs.Lays.n196 Tryd.prog Tryd.lays196_ren:={
 mixed:=by kernel_rfl
 f196:=Tryd.func65.trans (congrArg some (by kernel_rfl))
 f259:=Tryd.func77.trans (congrArg some (by kernel_rfl))
 t0:=Tryd.underlying0
 a0:=Tryd.isAgg0
 z0:=Tryd.sizeOf0
 v0:=Tryd.zeroValue0
 t3:=Tryd.underlying3
 a3:=Tryd.isAgg3
 z3:=Tryd.sizeOf3
 v3:=Tryd.zeroValue3
 t4:=Tryd.underlying4
 a4:=Tryd.isAgg4
 z4:=Tryd.sizeOf4
 v4:=Tryd.zeroValue4
 t5:=Tryd.underlying5
 a5:=Tryd.isAgg5
 z5:=Tryd.sizeOf5
 v5:=Tryd.zeroValue5
 t9:=Tryd.underlying9
 a9:=Tryd.isAgg9
 z9:=Tryd.sizeOf9
 v9:=Tryd.zeroValue9
 t12:=Tryd.underlying12
 a12:=Tryd.isAgg12
 z12:=Tryd.sizeOf12
 v12:=Tryd.zeroValue12
 t46:=Tryd.underlying108
 a46:=Tryd.isAgg108
 z46:=Tryd.sizeOf108
 v46:=Tryd.zeroValue108
 t53:=Tryd.underlying23
 a53:=Tryd.isAgg23
 z53:=Tryd.sizeOf23
 v53:=Tryd.zeroValue23
 t119:=Tryd.underlying140
 a119:=Tryd.isAgg140
 z119:=Tryd.sizeOf140
 t138:=Tryd.underlying142
 a138:=Tryd.isAgg142
 z138:=Tryd.sizeOf142
 v138:=Tryd.zeroValue142
 t139:=Tryd.underlying143
 a139:=Tryd.isAgg143
 z139:=Tryd.sizeOf143
 v139:=Tryd.zeroValue143
 g3:=by kernel_rfl
 g4:=by kernel_rfl }
open Go.RowKit Go.Lib in
theorem Tryd.utf8_ValidString (s:ByteArray) (w:World) (hs:s.size≤9223372036854775807) (hT:Lib.Utf8Tabs 0 1 w) :
  Calls Tryd.prog 65 #[.string s] w fun e w'=>e=.returned (.bool (Lib.validD s.data.toList))∧Below w.heap.size w w':=Any.utf8_ValidString Tryd.lays196 s w hs hT
end Go.Proofs
end
namespace Go.Proofs.YtnehmcpkeamghaaDoor
set_option linter.unusedVariables false
end Go.Proofs.YtnehmcpkeamghaaDoor
