/-
  Texts of this claim, part 5: EoF, EoG, EoH, EoI, VsB, VsC, EoJ, EoK, EoL, VwC, EoM, EoN, EoP, EoQ, EoR, EoS, VrA, EoT, EoU, EoV, EoW, EoX, EoY, Sxw, Sxw2, Sxv, Sxs, EoZ, EpA, Sxzf, EpC, EpE, EpF, EpD, EpG, EpN, QkE, QkF, QkG, QkN, JsU, JsM. No condition of its own.
-/
import Derived.OpenShut
import Derived.ChangeArms
import Derived.Lib.DecodeN
import Derived.Lib.ValidU
import Derived.Test.YtnehmcpkeamghaaDoorG4
namespace Go.Proofs.YtnehmcpkeamghaaDoor
set_option linter.unusedVariables false
section
namespace Sx
open Go.RowKit Sha Vi Ev

theorem eqC_numsM' {q:List Nat} {g:Nat→Nat} {l:List (BitVec 64)} {j:Nat}:eqC q (SC.mp g (numsF l j)) (numsF l j) True :=
 eqC_nums (f:=fun j=>SC.mp g (numsF l j)) (fun j x h=>by unfold numsF; rw [h]; rfl) j
theorem mskN_zero (P:List (BitVec 64)):mskN 0 P=P:=by simp [mskN]
theorem app_nums {P:List (BitVec 64)} {v:BitVec 64} {n:Nat} (hn:P.length=n) {f g:Nat→SC} (hf:∀ j x,P[j]?=some x→f j=.w64 x) (hg:g 0=.w64 v) (j:Nat) (x:BitVec 64) (h:(P++[v])[j]?=some x):appF f 0 (scale n (0+1)) (scale 1 (0+1)) g j=.w64 x:=by
 have e1:scale n (0+1)=n:=by rw [scale_eq,Nat.zero_add,Nat.mul_one]
 have e2:scale 1 (0+1)=1:=by rw [scale_eq]
 unfold appF
 rw [e1,e2]
 by_cases hj:j<n
 ·rw [if_pos hj,Nat.add_zero]
  rw [List.getElem?_append_left (by omega)] at h
  exact hf j x h
 ·rw [List.getElem?_append_right (by omega)] at h
  have hj0:j-P.length=0:=by
   rcases Nat.eq_zero_or_pos (j-P.length) with h1|h1
   ·exact h1
   ·rw [List.getElem?_eq_none (by simp; omega)] at h; cases h
  rw [hj0] at h
  injection h with h
  subst h
  rw [if_neg hj,if_pos (by omega),show j-n=0 by omega,hg]
theorem new_nums {v:BitVec 64} {g:Nat→SC} (hg:g 0=.w64 v) (j:Nat) (x:BitVec 64) (h:[v][j]?=some x):newF (scale 1 (0+1)) g j=.w64 x:=by
 have e2:scale 1 (0+1)=1:=by rw [scale_eq]
 cases j with
 | zero=>simp at h; subst h; unfold newF; rw [e2,if_pos (by decide),hg]
 | succ j=>simp at h
theorem padE_step {P:List (BitVec 64)} {m:Nat} (h:P.length<m):padE P (m-P.length)=padE (P++[BitVec.ofNat 64 P.length*7#64]) (m-(P++[BitVec.ofNat 64 P.length*7#64]).length):=by
 obtain ⟨k,hk⟩:∃ k,m-P.length=k+1:=⟨m-P.length-1,by omega⟩
 rw [hk,padE,List.length_append,List.length_singleton,show m-(P.length+1)=k by omega]
theorem padE_done {P:List (BitVec 64)} {m:Nat} (h:m≤P.length):padE P (m-P.length)=P:=by
 rw [show m-P.length=0 by omega]; rfl
theorem msk_step {i:Nat} {P:List (BitVec 64)} {y:BitVec 64} (hy:P[i]?=some y) (j:Nat) (x:BitVec 64) (h:(mskN (i+1) P)[j]?=some x):upd (numsF (mskN i P)) i (.w64 (mk62 y)) j=.w64 x:=by
 have hj:j<P.length:=by
  have:=(List.getElem?_eq_some_iff.1 h).1
  rwa [mskN_len] at this
 have hp:P[j]?=some P[j]:=List.getElem?_eq_getElem hj
 rw [mskN_get hp] at h
 injection h with h
 unfold upd
 by_cases hji:j=i
 ·subst hji
  rw [if_pos rfl]
  rw [hp] at hy
  injection hy with hy
  rw [if_pos (by omega)] at h
  rw [← h,← hy]
 ·rw [if_neg hji]
  refine nums_get ?_
  rw [mskN_get hp]
  congr 1
  rw [← h]
  by_cases hlt:j<i
  ·rw [if_pos hlt,if_pos (by omega)]
  ·rw [if_neg hlt,if_neg (by omega)]
theorem take_fin {D:Bs} (j:Nat) (x:SC) (h:((D.take 20).map SC.w8)[j]?=some x):bytesF D.length (L D) j=x:=by
 rw [List.getElem?_map,Option.map_eq_some_iff] at h
 obtain ⟨b,hb,rfl⟩:=h
 exact bytes_get hb (by rw [List.length_take]; omega) D rfl (fun i hi=>by rw [L_take _ _ _ (by rw [List.length_take] at hi; omega)])
theorem mask_fin {P:List (BitVec 64)} {m:Nat} (j:Nat) (x:SC) (h:(((P.take m).map mk62).map SC.w64)[j]?=some x):numsF (mskN m P) j=x:=by
 rw [List.getElem?_map,Option.map_eq_some_iff] at h
 obtain ⟨b,hb,rfl⟩:=h
 rw [List.getElem?_map,Option.map_eq_some_iff] at hb
 obtain ⟨a,ha,rfl⟩:=hb
 rw [List.getElem?_take] at ha
 split at ha
 ·rename_i hj
  refine nums_get ?_
  rw [mskN_get ha,if_pos hj]
 ·cases ha
set_option maxRecDepth 20000 in
set_option maxHeartbeats 16000000 in
theorem fn_efit11 {W:World} {ms:List Nat} {x:EvC} {e:Ev} (h:EvAt W ms x e) (hn:e.N.length≤1000) (hd:e.D.length≤1000) (hz:0<e.N.length) (hy:0<e.D.length) (k:BitVec 8):FnR Tryd.prog tds 11 1 [[.past W ms]] [.agg (evS e x),.c (.w8 k)] (fun _=>True)
  (fun y hs=>∃ W' ms' x',Later W ms W' ms'∧EvAt W' ms' x' (fitE e k)∧y=.a (.agg (evS (fitE e k) x'))∧hs=[[.past W' ms']]):=by
 refine fn_of_bodyW tds_ok follows_ Tryd.func11 rfl (t:=.a (.agg (evS e x))::.a (.c (.w8 k))::anys (Tryd.f11.ntmps-2)) rfl (fun w r0 hr _=>?_)
 obtain ⟨x0,rfl⟩:=List.length_eq_one_iff.1 hr
 have hm8:=many_le (kindE k)
 (repeat show _∧_;first|refine yr ?_|refine yt ?_|refine yf ?_|refine yo ?_)
 refine call_same (fn_ecl11 h (by omega) (by omega) hz hy) [0] rfl (by (repeat first|exact trivial|refine ent1 ?_)) (by (repeat first|exact trivial|refine ent1 ?_)) (fun _ _=>trivial) ?_
 rintro y hs' ⟨c1,c2,hc1,hc2,rfl,rfl⟩
 (repeat show _∧_;first|refine yr ?_|refine yt ?_|refine yf ?_|refine yo ?_)
 refine call_same (fn_many (kindE k) (kindE_ok k)) [] rfl (by (repeat first|exact trivial|refine ent1 ?_)) trivial (fun _ _=>trivial) ?_
 rintro y hs' ⟨rfl,rfl⟩
 (repeat show _∧_;first|refine yr ?_|refine yt ?_|refine yf ?_|refine yo ?_)
 refine .inl ⟨List (BitVec 64) × Nat,fun (P,c)=>⟨[.any,.a (.c (.w8 (k))),.a (.c (.p 1 0 0)),.any,.a (.c (.p 2 0 0)),.a (.c (.int .i64 (↑(evNames (kindE k)).length))),.a (.c (.bool ((evData (kindE k))))),.any,.any,.any,.any,.any,.any,.any,.any,.any,.any,.any,.any,.any,.any,.any,.any,.any,.any,.any,.any,.any,.any,.any,.any,.any,.any,.any,.any,.any,.any,.any,.any,.any,.any,.any,.any,.any,.any,.any,.any,.any,.any,.any,.any,.any,.any,.any,.any,.any,.any,.any,.any,.any,.any,.any,.any,.any,.any,.any,.any,.any,.any,.any],[[.past W ms],[.one (.w8 (kindE k)),.one (.w64 (e.t % 1125899906842625#64)),.one (.sl 4 0 0 P.length c),.one (.sl 3 0 0 e.D.length c2)],[.one (.w8 0),.one (.w64 0),.one (.slc none 0 0),.one (.slc none 0 0)],lsC e.D c2,[.row c (numsF P)]]⟩,fun (P,c)=>P.length≤c∧P.length≤1100∧padE P ((evNames (kindE k)).length-P.length)=padE e.N ((evNames (kindE k)).length-e.N.length),fun (P,c)=>(evNames (kindE k)).length-P.length,⟨(e.N,c1),[0,1,2,4,3],⟨⟨rfl,rfl,rfl⟩,?_⟩,hc1,by omega,rfl⟩,fun (P,c) ⟨h1,h2,h3⟩=>?_⟩
 ·(repeat first|exact trivial|refine ent1 ?_)
  exact ⟨fun j hj=>eqC_numsM',by (repeat first|exact trivial|refine ent1 ?_)⟩
 refine And.intro (fun hlt=>?_) (fun hge=>?_)
 ·have hlt:P.length<(evNames (kindE k)).length:=by have:(P.length:Int)<((evNames (kindE k)).length:Int):=of_decide_eq_true hlt; omega
  (repeat show _∧_;first|refine yr ?_|refine yt ?_|refine yf ?_|refine yo ?_)
  refine And.intro ⟨h1,by first|omega|(simp only [scale_eq]; omega),show (P.length+1)*8≤140737488355328 by omega⟩ ?_
  intro c' hc'
  (repeat show _∧_;first|refine yr ?_|refine yt ?_|refine yf ?_|refine yo ?_)
  refine ⟨(P++[BitVec.ofNat 64 P.length*7#64],c'),[0,1,2,3,6],⟨⟨rfl,rfl,rfl⟩,?_⟩,⟨by rw [List.length_append,List.length_singleton]; exact hc',by rw [List.length_append,List.length_singleton]; omega,by rw [← h3]; exact (padE_step hlt).symm⟩,by dsimp only; rw [List.length_append,List.length_singleton]; omega⟩
  (repeat first|exact trivial|refine ent1 ?_)
  refine ⟨by rw [List.length_append,List.length_singleton],?_⟩
  (repeat first|exact trivial|refine ent1 ?_)
  exact ⟨fun j hj=>eqC_nums (app_nums rfl (fun j x h=>nums_get h) (congrArg SC.w64 (by rw [BitVec.ofInt_natCast]))) j,by (repeat first|exact trivial|refine ent1 ?_)⟩
 ·have hge:(evNames (kindE k)).length≤P.length:=by have:¬ (P.length:Int)<((evNames (kindE k)).length:Int):=of_decide_eq_false hge; omega
  rw [padE_done hge] at h3
  have hT:((padE e.N ((evNames (kindE k)).length-e.N.length)).take (evNames (kindE k)).length).map mk62=(P.take (evNames (kindE k)).length).map mk62:=by rw [← h3]
  have hTl:((P.take (evNames (kindE k)).length).map mk62).length=(evNames (kindE k)).length:=by simp only [List.length_map,List.length_take]; omega
  refine And.intro (show (0:Int)≤0∧(0:Int)≤((evNames (kindE k)).length:Int)∧((evNames (kindE k)).length:Int)≤(c:Int) by omega) ?_
  refine frcN_of (m:=0) rfl ?_
  refine frcN_of (m:=(evNames (kindE k)).length) (by omega) ?_
  refine frcN_of (m:=0) (by split <;> omega) ?_
  refine frcN_of (m:=(evNames (kindE k)).length) (by omega) ?_
  refine frcN_of (m:=c) (by omega) ?_
  (repeat show _∧_;first|refine yr ?_|refine yt ?_|refine yf ?_|refine yo ?_)
  refine .inl ⟨Nat,fun i=>⟨[.any,.a (.c (.w8 (k))),.a (.c (.p 1 0 0)),.any,.a (.c (.p 2 0 0)),.a (.c (.int .i64 (↑(evNames (kindE k)).length))),.a (.c (.bool ((evData (kindE k))))),.any,.any,.any,.any,.any,.any,.any,.any,.any,.any,.any,.any,.any,.any,.any,.any,.any,.any,.any,.any,.any,.any,.any,.any,.any,.any,.any,.any,.any,.any,.any,.any,.any,.any,.any,.any,.any,.any,.any,.a (.c (.int .i64 (↑(evNames (kindE k)).length))),.a (.c (.int .i64 (↑i))),.any,.any,.any,.any,.any,.any,.any,.any,.any,.any,.any,.any,.any,.any,.any,.any,.any,.any,.any,.any,.any,.any],[[.past W ms],[.one (.w8 (kindE k)),.one (.w64 (e.t % 1125899906842625#64)),.one (.sl 4 0 0 (evNames (kindE k)).length c),.one (.sl 3 0 0 e.D.length c2)],[.one (.w8 0),.one (.w64 0),.one (.slc none 0 0),.one (.slc none 0 0)],lsC e.D c2,[.row c (numsF (mskN i P))]]⟩,fun i=>i≤(evNames (kindE k)).length,fun i=>(evNames (kindE k)).length-i,⟨0,[0,1,2,3,4],⟨⟨rfl,rfl,rfl⟩,?_⟩,Nat.zero_le _⟩,fun i hi=>And.intro (fun hlt=>?_) (fun hge2=>?_)⟩
  ·(repeat first|exact trivial|refine ent1 ?_)
   exact ⟨fun j hj=>by rw [mskN_zero]; exact eqC_numsS,by (repeat first|exact trivial|refine ent1 ?_)⟩
  ·have hlt:i<(evNames (kindE k)).length:=by have:(i:Int)<((evNames (kindE k)).length:Int):=of_decide_eq_true hlt; omega
   obtain ⟨y,hy⟩:∃ y,P[i]?=some y:=⟨_,List.getElem?_eq_getElem (by omega)⟩
   have hmy:(mskN i P)[(i:Int).toNat+0]?=some y:=by rw [show (i:Int).toNat+0=i by omega,mskN_get hy,if_neg (by omega)]
   refine And.intro (show (0:Int)≤(i:Int)∧(i:Int)<((evNames (kindE k)).length:Int) by omega) ?_
   refine And.intro (show (i:Int).toNat+0<c by omega) ?_
   refine frc_nums hmy ?_
   refine And.intro (show (0:Int)≤(i:Int)∧(i:Int)<((evNames (kindE k)).length:Int) by omega) ?_
   refine And.intro (show (i:Int).toNat+0<c by omega) ?_
   (repeat show _∧_;first|refine yr ?_|refine yt ?_|refine yf ?_|refine yo ?_)
   refine ⟨i+1,[0,1,2,3,4],⟨⟨rfl,rfl,rfl⟩,?_⟩,by omega,by dsimp only; omega⟩
   (repeat first|exact trivial|refine ent1 ?_)
   exact ⟨fun j hj=>eqC_nums (fun j x h=>by rw [show (i:Int).toNat+0=i by omega]; exact msk_step hy j x h) j,by (repeat first|exact trivial|refine ent1 ?_)⟩
  ·obtain rfl:i=(evNames (kindE k)).length:=by have:¬ (i:Int)<((evNames (kindE k)).length:Int):=of_decide_eq_false hge2; omega
   (repeat show _∧_;first|refine yr ?_|refine yt ?_|refine yf ?_|refine yo ?_)
   cases hdt:evData (kindE k)
   ·refine And.intro (fun _=>?_) (fun h=>absurd h (by decide))
    (repeat show _∧_;first|refine yr ?_|refine yt ?_|refine yf ?_|refine yo ?_)
    have hDD:(if evData (kindE k)=true then e.D.take 20 else [])=[]:=by rw [hdt]; rfl
    refine finW_frz [0] rfl (Nat.zero_lt_one) cx0_m rfl (fun W' ms' α hL hI=>?_)
    have hfe:fitE e k=⟨kindE k,e.t % 1125899906842625#64,((padE e.N ((evNames (kindE k)).length-e.N.length)).take (evNames (kindE k)).length).map mk62,if evData (kindE k)=true then e.D.take 20 else []⟩:=rfl
    refine ⟨.a (.agg (evS (fitE e k) ⟨some ((α 4).add (0+0)),(evNames (kindE k)).length,c,none,0,0⟩)),[],⟨⟨rfl,rfl,rfl⟩,?_⟩,W',ms',⟨some ((α 4).add (0+0)),(evNames (kindE k)).length,c,none,0,0⟩,hL,⟨(by rw [show (fitE e k).N=_ from hT]; exact SlAt.frz (F:=fun j=>!memB j [0]) (hI 4 rfl) rfl (show (evNames (kindE k)).length≤c by omega) (show (evNames (kindE k)).length≤9223372036854775807 by omega) (by decide) (by rw [List.length_map,hTl,Nat.mul_one]) mask_fin (rz_w64 _)),(by rw [show (fitE e k).D=[] from hDD]; exact SlAt.nul)⟩,rfl,rfl⟩
    (repeat first|exact trivial|refine ent1 ?_)
   ·refine And.intro (fun h=>absurd h (by decide)) (fun _=>?_)
    have hmin:(if (20:Int)<(e.D.length:Int) then (20:Int) else (e.D.length:Int))=((e.D.take 20).length:Int):=by rw [List.length_take]; split <;> omega
    have hmle:(e.D.take 20).length≤c2:=by rw [List.length_take]; omega
    refine And.intro (show (0:Int)≤0∧(0:Int)≤(if (20:Int)<(e.D.length:Int) then (20:Int) else (e.D.length:Int))∧(if (20:Int)<(e.D.length:Int) then (20:Int) else (e.D.length:Int))≤(c2:Int) by rw [hmin]; omega) ?_
    refine frcN_of (m:=0) rfl ?_
    refine frcN_of (m:=(e.D.take 20).length) (by rw [hmin]; rfl) ?_
    refine frcN_of (m:=0) (by split <;> omega) ?_
    refine frcN_of (m:=(e.D.take 20).length) (by omega) ?_
    refine frcN_of (m:=c2) (by omega) ?_
    (repeat show _∧_;first|refine yr ?_|refine yt ?_|refine yf ?_|refine yo ?_)
    have hDD:(if evData (kindE k)=true then e.D.take 20 else [])=e.D.take 20:=by rw [hdt]; rfl
    refine finW_frz [0] rfl (Nat.zero_lt_one) cx0_m rfl (fun W' ms' α hL hI=>?_)
    have hfe:fitE e k=⟨kindE k,e.t % 1125899906842625#64,((padE e.N ((evNames (kindE k)).length-e.N.length)).take (evNames (kindE k)).length).map mk62,if evData (kindE k)=true then e.D.take 20 else []⟩:=rfl
    refine ⟨.a (.agg (evS (fitE e k) ⟨some ((α 4).add (0+0)),(evNames (kindE k)).length,c,some ((α 3).add (0+0)),(e.D.take 20).length,c2⟩)),[],⟨⟨rfl,rfl,rfl⟩,?_⟩,W',ms',⟨some ((α 4).add (0+0)),(evNames (kindE k)).length,c,some ((α 3).add (0+0)),(e.D.take 20).length,c2⟩,hL,⟨(by rw [show (fitE e k).N=_ from hT]; exact SlAt.frz (F:=fun j=>!memB j [0]) (hI 4 rfl) rfl (show (evNames (kindE k)).length≤c by omega) (show (evNames (kindE k)).length≤9223372036854775807 by omega) (by decide) (by rw [List.length_map,hTl,Nat.mul_one]) mask_fin (rz_w64 _)),(by rw [show (fitE e k).D=_ from hDD]; exact SlAt.frz (F:=fun j=>!memB j [0]) (hI 3 rfl) rfl (show (e.D.take 20).length≤c2 from hmle) (show (e.D.take 20).length≤9223372036854775807 by rw [List.length_take]; omega) (by decide) (by rw [List.length_map,Nat.mul_one]) take_fin (rz_w8 _))⟩,rfl,rfl⟩
    (repeat first|exact trivial|refine ent1 ?_)
set_option maxRecDepth 20000 in
set_option maxHeartbeats 16000000 in
theorem fn_efit10 {W:World} {ms:List Nat} {x:EvC} {e:Ev} (h:EvAt W ms x e) (hn:e.N.length≤1000) (hd:e.D.length≤1000) (hz:0<e.N.length) (hy:e.D.length=0) (k:BitVec 8):FnR Tryd.prog tds 11 1 [[.past W ms]] [.agg (evS e x),.c (.w8 k)] (fun _=>True)
  (fun y hs=>∃ W' ms' x',Later W ms W' ms'∧EvAt W' ms' x' (fitE e k)∧y=.a (.agg (evS (fitE e k) x'))∧hs=[[.past W' ms']]):=by
 refine fn_of_bodyW tds_ok follows_ Tryd.func11 rfl (t:=.a (.agg (evS e x))::.a (.c (.w8 k))::anys (Tryd.f11.ntmps-2)) rfl (fun w r0 hr _=>?_)
 obtain ⟨x0,rfl⟩:=List.length_eq_one_iff.1 hr
 have hm8:=many_le (kindE k)
 (repeat show _∧_;first|refine yr ?_|refine yt ?_|refine yf ?_|refine yo ?_)
 refine call_same (fn_ecl10 h (by omega) (by omega) hz hy) [0] rfl (by (repeat first|exact trivial|refine ent1 ?_)) (by (repeat first|exact trivial|refine ent1 ?_)) (fun _ _=>trivial) ?_
 rintro y hs' ⟨c1,hc1,rfl,rfl⟩
 (repeat show _∧_;first|refine yr ?_|refine yt ?_|refine yf ?_|refine yo ?_)
 refine call_same (fn_many (kindE k) (kindE_ok k)) [] rfl (by (repeat first|exact trivial|refine ent1 ?_)) trivial (fun _ _=>trivial) ?_
 rintro y hs' ⟨rfl,rfl⟩
 (repeat show _∧_;first|refine yr ?_|refine yt ?_|refine yf ?_|refine yo ?_)
 refine .inl ⟨List (BitVec 64) × Nat,fun (P,c)=>⟨[.any,.a (.c (.w8 (k))),.a (.c (.p 1 0 0)),.any,.a (.c (.p 2 0 0)),.a (.c (.int .i64 (↑(evNames (kindE k)).length))),.a (.c (.bool ((evData (kindE k))))),.any,.any,.any,.any,.any,.any,.any,.any,.any,.any,.any,.any,.any,.any,.any,.any,.any,.any,.any,.any,.any,.any,.any,.any,.any,.any,.any,.any,.any,.any,.any,.any,.any,.any,.any,.any,.any,.any,.any,.any,.any,.any,.any,.any,.any,.any,.any,.any,.any,.any,.any,.any,.any,.any,.any,.any,.any,.any,.any,.any,.any,.any,.any],[[.past W ms],[.one (.w8 (kindE k)),.one (.w64 (e.t % 1125899906842625#64)),.one (.sl 3 0 0 P.length c),.one (.slc none 0 0)],[.one (.w8 0),.one (.w64 0),.one (.slc none 0 0),.one (.slc none 0 0)],[.row c (numsF P)]]⟩,fun (P,c)=>P.length≤c∧P.length≤1100∧padE P ((evNames (kindE k)).length-P.length)=padE e.N ((evNames (kindE k)).length-e.N.length),fun (P,c)=>(evNames (kindE k)).length-P.length,⟨(e.N,c1),[0,1,2,3],⟨⟨rfl,rfl,rfl⟩,?_⟩,hc1,by omega,rfl⟩,fun (P,c) ⟨h1,h2,h3⟩=>?_⟩
 ·(repeat first|exact trivial|refine ent1 ?_)
  exact ⟨fun j hj=>eqC_numsM',by (repeat first|exact trivial|refine ent1 ?_)⟩
 refine And.intro (fun hlt=>?_) (fun hge=>?_)
 ·have hlt:P.length<(evNames (kindE k)).length:=by have:(P.length:Int)<((evNames (kindE k)).length:Int):=of_decide_eq_true hlt; omega
  (repeat show _∧_;first|refine yr ?_|refine yt ?_|refine yf ?_|refine yo ?_)
  refine And.intro ⟨h1,by first|omega|(simp only [scale_eq]; omega),show (P.length+1)*8≤140737488355328 by omega⟩ ?_
  intro c' hc'
  (repeat show _∧_;first|refine yr ?_|refine yt ?_|refine yf ?_|refine yo ?_)
  refine ⟨(P++[BitVec.ofNat 64 P.length*7#64],c'),[0,1,2,5],⟨⟨rfl,rfl,rfl⟩,?_⟩,⟨by rw [List.length_append,List.length_singleton]; exact hc',by rw [List.length_append,List.length_singleton]; omega,by rw [← h3]; exact (padE_step hlt).symm⟩,by dsimp only; rw [List.length_append,List.length_singleton]; omega⟩
  (repeat first|exact trivial|refine ent1 ?_)
  refine ⟨by rw [List.length_append,List.length_singleton],?_⟩
  (repeat first|exact trivial|refine ent1 ?_)
  exact ⟨fun j hj=>eqC_nums (app_nums rfl (fun j x h=>nums_get h) (congrArg SC.w64 (by rw [BitVec.ofInt_natCast]))) j,by (repeat first|exact trivial|refine ent1 ?_)⟩
 ·have hge:(evNames (kindE k)).length≤P.length:=by have:¬ (P.length:Int)<((evNames (kindE k)).length:Int):=of_decide_eq_false hge; omega
  rw [padE_done hge] at h3
  have hT:((padE e.N ((evNames (kindE k)).length-e.N.length)).take (evNames (kindE k)).length).map mk62=(P.take (evNames (kindE k)).length).map mk62:=by rw [← h3]
  have hTl:((P.take (evNames (kindE k)).length).map mk62).length=(evNames (kindE k)).length:=by simp only [List.length_map,List.length_take]; omega
  refine And.intro (show (0:Int)≤0∧(0:Int)≤((evNames (kindE k)).length:Int)∧((evNames (kindE k)).length:Int)≤(c:Int) by omega) ?_
  refine frcN_of (m:=0) rfl ?_
  refine frcN_of (m:=(evNames (kindE k)).length) (by omega) ?_
  refine frcN_of (m:=0) (by split <;> omega) ?_
  refine frcN_of (m:=(evNames (kindE k)).length) (by omega) ?_
  refine frcN_of (m:=c) (by omega) ?_
  (repeat show _∧_;first|refine yr ?_|refine yt ?_|refine yf ?_|refine yo ?_)
  refine .inl ⟨Nat,fun i=>⟨[.any,.a (.c (.w8 (k))),.a (.c (.p 1 0 0)),.any,.a (.c (.p 2 0 0)),.a (.c (.int .i64 (↑(evNames (kindE k)).length))),.a (.c (.bool ((evData (kindE k))))),.any,.any,.any,.any,.any,.any,.any,.any,.any,.any,.any,.any,.any,.any,.any,.any,.any,.any,.any,.any,.any,.any,.any,.any,.any,.any,.any,.any,.any,.any,.any,.any,.any,.any,.any,.any,.any,.any,.any,.a (.c (.int .i64 (↑(evNames (kindE k)).length))),.a (.c (.int .i64 (↑i))),.any,.any,.any,.any,.any,.any,.any,.any,.any,.any,.any,.any,.any,.any,.any,.any,.any,.any,.any,.any,.any,.any],[[.past W ms],[.one (.w8 (kindE k)),.one (.w64 (e.t % 1125899906842625#64)),.one (.sl 3 0 0 (evNames (kindE k)).length c),.one (.slc none 0 0)],[.one (.w8 0),.one (.w64 0),.one (.slc none 0 0),.one (.slc none 0 0)],[.row c (numsF (mskN i P))]]⟩,fun i=>i≤(evNames (kindE k)).length,fun i=>(evNames (kindE k)).length-i,⟨0,[0,1,2,3],⟨⟨rfl,rfl,rfl⟩,?_⟩,Nat.zero_le _⟩,fun i hi=>And.intro (fun hlt=>?_) (fun hge2=>?_)⟩
  ·(repeat first|exact trivial|refine ent1 ?_)
   exact ⟨fun j hj=>by rw [mskN_zero]; exact eqC_numsS,by (repeat first|exact trivial|refine ent1 ?_)⟩
  ·have hlt:i<(evNames (kindE k)).length:=by have:(i:Int)<((evNames (kindE k)).length:Int):=of_decide_eq_true hlt; omega
   obtain ⟨y,hy⟩:∃ y,P[i]?=some y:=⟨_,List.getElem?_eq_getElem (by omega)⟩
   have hmy:(mskN i P)[(i:Int).toNat+0]?=some y:=by rw [show (i:Int).toNat+0=i by omega,mskN_get hy,if_neg (by omega)]
   refine And.intro (show (0:Int)≤(i:Int)∧(i:Int)<((evNames (kindE k)).length:Int) by omega) ?_
   refine And.intro (show (i:Int).toNat+0<c by omega) ?_
   refine frc_nums hmy ?_
   refine And.intro (show (0:Int)≤(i:Int)∧(i:Int)<((evNames (kindE k)).length:Int) by omega) ?_
   refine And.intro (show (i:Int).toNat+0<c by omega) ?_
   (repeat show _∧_;first|refine yr ?_|refine yt ?_|refine yf ?_|refine yo ?_)
   refine ⟨i+1,[0,1,2,3],⟨⟨rfl,rfl,rfl⟩,?_⟩,by omega,by dsimp only; omega⟩
   (repeat first|exact trivial|refine ent1 ?_)
   exact ⟨fun j hj=>eqC_nums (fun j x h=>by rw [show (i:Int).toNat+0=i by omega]; exact msk_step hy j x h) j,by (repeat first|exact trivial|refine ent1 ?_)⟩
  ·obtain rfl:i=(evNames (kindE k)).length:=by have:¬ (i:Int)<((evNames (kindE k)).length:Int):=of_decide_eq_false hge2; omega
   (repeat show _∧_;first|refine yr ?_|refine yt ?_|refine yf ?_|refine yo ?_)
   cases hdt:evData (kindE k)
   ·refine And.intro (fun _=>?_) (fun h=>absurd h (by decide))
    (repeat show _∧_;first|refine yr ?_|refine yt ?_|refine yf ?_|refine yo ?_)
    have hDD:(if evData (kindE k)=true then e.D.take 20 else [])=[]:=by rw [hdt]; rfl
    refine finW_frz [0] rfl (Nat.zero_lt_one) cx0_m rfl (fun W' ms' α hL hI=>?_)
    have hfe:fitE e k=⟨kindE k,e.t % 1125899906842625#64,((padE e.N ((evNames (kindE k)).length-e.N.length)).take (evNames (kindE k)).length).map mk62,if evData (kindE k)=true then e.D.take 20 else []⟩:=rfl
    refine ⟨.a (.agg (evS (fitE e k) ⟨some ((α 3).add (0+0)),(evNames (kindE k)).length,c,none,0,0⟩)),[],⟨⟨rfl,rfl,rfl⟩,?_⟩,W',ms',⟨some ((α 3).add (0+0)),(evNames (kindE k)).length,c,none,0,0⟩,hL,⟨(by rw [show (fitE e k).N=_ from hT]; exact SlAt.frz (F:=fun j=>!memB j [0]) (hI 3 rfl) rfl (show (evNames (kindE k)).length≤c by omega) (show (evNames (kindE k)).length≤9223372036854775807 by omega) (by decide) (by rw [List.length_map,hTl,Nat.mul_one]) mask_fin (rz_w64 _)),(by rw [show (fitE e k).D=[] from hDD]; exact SlAt.nul)⟩,rfl,rfl⟩
    (repeat first|exact trivial|refine ent1 ?_)
   ·refine And.intro (fun h=>absurd h (by decide)) (fun _=>?_)
    (repeat show _∧_;first|refine yr ?_|refine yt ?_|refine yf ?_|refine yo ?_)
    have hDD:(if evData (kindE k)=true then e.D.take 20 else [])=[]:=by rw [hdt,List.eq_nil_of_length_eq_zero hy]; rfl
    refine finW_frz [0] rfl (Nat.zero_lt_one) cx0_m rfl (fun W' ms' α hL hI=>?_)
    have hfe:fitE e k=⟨kindE k,e.t % 1125899906842625#64,((padE e.N ((evNames (kindE k)).length-e.N.length)).take (evNames (kindE k)).length).map mk62,if evData (kindE k)=true then e.D.take 20 else []⟩:=rfl
    refine ⟨.a (.agg (evS (fitE e k) ⟨some ((α 3).add (0+0)),(evNames (kindE k)).length,c,none,0,0⟩)),[],⟨⟨rfl,rfl,rfl⟩,?_⟩,W',ms',⟨some ((α 3).add (0+0)),(evNames (kindE k)).length,c,none,0,0⟩,hL,⟨(by rw [show (fitE e k).N=_ from hT]; exact SlAt.frz (F:=fun j=>!memB j [0]) (hI 3 rfl) rfl (show (evNames (kindE k)).length≤c by omega) (show (evNames (kindE k)).length≤9223372036854775807 by omega) (by decide) (by rw [List.length_map,hTl,Nat.mul_one]) mask_fin (rz_w64 _)),(by rw [show (fitE e k).D=[] from hDD]; exact SlAt.nul)⟩,rfl,rfl⟩
    (repeat first|exact trivial|refine ent1 ?_)
set_option maxRecDepth 20000 in
set_option maxHeartbeats 16000000 in
theorem fn_efit01 {W:World} {ms:List Nat} {x:EvC} {e:Ev} (h:EvAt W ms x e) (hn:e.N.length≤1000) (hd:e.D.length≤1000) (hz:e.N.length=0) (hy:0<e.D.length) (k:BitVec 8):FnR Tryd.prog tds 11 1 [[.past W ms]] [.agg (evS e x),.c (.w8 k)] (fun _=>True)
  (fun y hs=>∃ W' ms' x',Later W ms W' ms'∧EvAt W' ms' x' (fitE e k)∧y=.a (.agg (evS (fitE e k) x'))∧hs=[[.past W' ms']]):=by
 refine fn_of_bodyW tds_ok follows_ Tryd.func11 rfl (t:=.a (.agg (evS e x))::.a (.c (.w8 k))::anys (Tryd.f11.ntmps-2)) rfl (fun w r0 hr _=>?_)
 obtain ⟨x0,rfl⟩:=List.length_eq_one_iff.1 hr
 have hm8:=many_le (kindE k)
 (repeat show _∧_;first|refine yr ?_|refine yt ?_|refine yf ?_|refine yo ?_)
 refine call_same (fn_ecl01 h (by omega) (by omega) hz hy) [0] rfl (by (repeat first|exact trivial|refine ent1 ?_)) (by (repeat first|exact trivial|refine ent1 ?_)) (fun _ _=>trivial) ?_
 rintro y hs' ⟨c2,hc2,rfl,rfl⟩
 (repeat show _∧_;first|refine yr ?_|refine yt ?_|refine yf ?_|refine yo ?_)
 refine call_same (fn_many (kindE k) (kindE_ok k)) [] rfl (by (repeat first|exact trivial|refine ent1 ?_)) trivial (fun _ _=>trivial) ?_
 rintro y hs' ⟨rfl,rfl⟩
 (repeat show _∧_;first|refine yr ?_|refine yt ?_|refine yf ?_|refine yo ?_)
 refine .inl ⟨Option (List (BitVec 64) × Nat),fun x=>match x with
  | none=>⟨[.any,.a (.c (.w8 (k))),.a (.c (.p 1 0 0)),.any,.a (.c (.p 2 0 0)),.a (.c (.int .i64 (↑(evNames (kindE k)).length))),.a (.c (.bool ((evData (kindE k))))),.any,.any,.any,.any,.any,.any,.any,.any,.any,.any,.any,.any,.any,.any,.any,.any,.any,.any,.any,.any,.any,.any,.any,.any,.any,.any,.any,.any,.any,.any,.any,.any,.any,.any,.any,.any,.any,.any,.any,.any,.any,.any,.any,.any,.any,.any,.any,.any,.any,.any,.any,.any,.any,.any,.any,.any,.any,.any,.any,.any,.any,.any,.any],[[.past W ms],[.one (.w8 (kindE k)),.one (.w64 (e.t % 1125899906842625#64)),.one (.slc none 0 0),.one (.sl 3 0 0 e.D.length c2)],[.one (.w8 0),.one (.w64 0),.one (.slc none 0 0),.one (.slc none 0 0)],lsC e.D c2]⟩
  | some (P,c)=>⟨[.any,.a (.c (.w8 (k))),.a (.c (.p 1 0 0)),.any,.a (.c (.p 2 0 0)),.a (.c (.int .i64 (↑(evNames (kindE k)).length))),.a (.c (.bool ((evData (kindE k))))),.any,.any,.any,.any,.any,.any,.any,.any,.any,.any,.any,.any,.any,.any,.any,.any,.any,.any,.any,.any,.any,.any,.any,.any,.any,.any,.any,.any,.any,.any,.any,.any,.any,.any,.any,.any,.any,.any,.any,.any,.any,.any,.any,.any,.any,.any,.any,.any,.any,.any,.any,.any,.any,.any,.any,.any,.any,.any,.any,.any,.any,.any,.any],[[.past W ms],[.one (.w8 (kindE k)),.one (.w64 (e.t % 1125899906842625#64)),.one (.sl 4 0 0 P.length c),.one (.sl 3 0 0 e.D.length c2)],[.one (.w8 0),.one (.w64 0),.one (.slc none 0 0),.one (.slc none 0 0)],lsC e.D c2,[.row c (numsF P)]]⟩,
  fun x=>match x with
  | none=>True
  | some (P,c)=>P.length≤c∧P.length≤1100∧padE P ((evNames (kindE k)).length-P.length)=padE e.N ((evNames (kindE k)).length-e.N.length),
  fun x=>match x with
  | none=>(evNames (kindE k)).length+1
  | some (P,c)=>(evNames (kindE k)).length-P.length,⟨none,[0,1,2,3],⟨⟨rfl,rfl,rfl⟩,by (repeat first|exact trivial|refine ent1 ?_)⟩,trivial⟩,fun x hx=>?_⟩
 have hN0:e.N=[]:=List.eq_nil_of_length_eq_zero hz
 rcases x with _|⟨P,c⟩
 ·refine And.intro (fun hlt=>?_) (fun hge=>?_)
  ·have hlt:0<(evNames (kindE k)).length:=by have:(0:Int)<((evNames (kindE k)).length:Int):=of_decide_eq_true hlt; omega
   (repeat show _∧_;first|refine yr ?_|refine yt ?_|refine yf ?_|refine yo ?_)
   intro c' hc'
   (repeat show _∧_;first|refine yr ?_|refine yt ?_|refine yf ?_|refine yo ?_)
   refine ⟨some ([BitVec.ofNat 64 0*7#64],c'),[0,1,2,3,5],⟨⟨rfl,rfl,rfl⟩,?_⟩,⟨hc',by decide,?_⟩,by dsimp only; simp only [List.length_singleton]; omega⟩
   ·(repeat first|exact trivial|refine ent1 ?_)
    exact ⟨fun j hj=>eqC_nums (new_nums rfl) j,by (repeat first|exact trivial|refine ent1 ?_)⟩
   ·have:=padE_step (P:=[]) (m:=(evNames (kindE k)).length) hlt
    rw [hN0]
    exact this.symm
  ·have hge:(evNames (kindE k)).length=0:=by have:¬ (0:Int)<((evNames (kindE k)).length:Int):=of_decide_eq_false hge; omega
   have hT:((padE e.N ((evNames (kindE k)).length-e.N.length)).take (evNames (kindE k)).length).map mk62=[]:=by rw [hge]; simp
   refine And.intro (show (0:Int)≤0∧(0:Int)≤((evNames (kindE k)).length:Int)∧((evNames (kindE k)).length:Int)≤((0:Nat):Int) by omega) ?_
   refine frcN_of (m:=0) rfl ?_
   refine frcN_of (m:=0) (by omega) ?_
   refine frcN_of (m:=0) rfl ?_
   refine frcN_of (m:=0) rfl ?_
   (repeat show _∧_;first|refine yr ?_|refine yt ?_|refine yf ?_|refine yo ?_)
   refine .inr ⟨1,?_⟩
   refine And.intro (fun h=>absurd h (by decide)) (fun _=>?_)
   cases hdt:evData (kindE k)
   ·refine And.intro (fun _=>?_) (fun h=>absurd h (by decide))
    (repeat show _∧_;first|refine yr ?_|refine yt ?_|refine yf ?_|refine yo ?_)
    have hDD:(if evData (kindE k)=true then e.D.take 20 else [])=[]:=by rw [hdt]; rfl
    refine finW_frz [0] rfl (Nat.zero_lt_one) cx0_m rfl (fun W' ms' α hL hI=>?_)
    have hfe:fitE e k=⟨kindE k,e.t % 1125899906842625#64,((padE e.N ((evNames (kindE k)).length-e.N.length)).take (evNames (kindE k)).length).map mk62,if evData (kindE k)=true then e.D.take 20 else []⟩:=rfl
    refine ⟨.a (.agg (evS (fitE e k) ⟨none,0,0,none,0,0⟩)),[],⟨⟨rfl,rfl,rfl⟩,?_⟩,W',ms',⟨none,0,0,none,0,0⟩,hL,⟨(by rw [show (fitE e k).N=[] from hT]; exact SlAt.nul),(by rw [show (fitE e k).D=[] from hDD]; exact SlAt.nul)⟩,rfl,rfl⟩
    (repeat first|exact trivial|refine ent1 ?_)
   ·refine And.intro (fun h=>absurd h (by decide)) (fun _=>?_)
    have hmin:(if (20:Int)<(e.D.length:Int) then (20:Int) else (e.D.length:Int))=((e.D.take 20).length:Int):=by rw [List.length_take]; split <;> omega
    have hmle:(e.D.take 20).length≤c2:=by rw [List.length_take]; omega
    refine And.intro (show (0:Int)≤0∧(0:Int)≤(if (20:Int)<(e.D.length:Int) then (20:Int) else (e.D.length:Int))∧(if (20:Int)<(e.D.length:Int) then (20:Int) else (e.D.length:Int))≤(c2:Int) by rw [hmin]; omega) ?_
    refine frcN_of (m:=0) rfl ?_
    refine frcN_of (m:=(e.D.take 20).length) (by rw [hmin]; rfl) ?_
    refine frcN_of (m:=0) (by split <;> omega) ?_
    refine frcN_of (m:=(e.D.take 20).length) (by omega) ?_
    refine frcN_of (m:=c2) (by omega) ?_
    (repeat show _∧_;first|refine yr ?_|refine yt ?_|refine yf ?_|refine yo ?_)
    have hDD:(if evData (kindE k)=true then e.D.take 20 else [])=e.D.take 20:=by rw [hdt]; rfl
    refine finW_frz [0] rfl (Nat.zero_lt_one) cx0_m rfl (fun W' ms' α hL hI=>?_)
    have hfe:fitE e k=⟨kindE k,e.t % 1125899906842625#64,((padE e.N ((evNames (kindE k)).length-e.N.length)).take (evNames (kindE k)).length).map mk62,if evData (kindE k)=true then e.D.take 20 else []⟩:=rfl
    refine ⟨.a (.agg (evS (fitE e k) ⟨none,0,0,some ((α 3).add (0+0)),(e.D.take 20).length,c2⟩)),[],⟨⟨rfl,rfl,rfl⟩,?_⟩,W',ms',⟨none,0,0,some ((α 3).add (0+0)),(e.D.take 20).length,c2⟩,hL,⟨(by rw [show (fitE e k).N=[] from hT]; exact SlAt.nul),(by rw [show (fitE e k).D=_ from hDD]; exact SlAt.frz (F:=fun j=>!memB j [0]) (hI 3 rfl) rfl (show (e.D.take 20).length≤c2 from hmle) (show (e.D.take 20).length≤9223372036854775807 by rw [List.length_take]; omega) (by decide) (by rw [List.length_map,Nat.mul_one]) take_fin (rz_w8 _))⟩,rfl,rfl⟩
    (repeat first|exact trivial|refine ent1 ?_)
 ·obtain ⟨h1,h2,h3⟩:=hx
  refine And.intro (fun hlt=>?_) (fun hge=>?_)
  ·have hlt:P.length<(evNames (kindE k)).length:=by have:(P.length:Int)<((evNames (kindE k)).length:Int):=of_decide_eq_true hlt; omega
   (repeat show _∧_;first|refine yr ?_|refine yt ?_|refine yf ?_|refine yo ?_)
   refine And.intro ⟨h1,by first|omega|(simp only [scale_eq]; omega),show (P.length+1)*8≤140737488355328 by omega⟩ ?_
   intro c' hc'
   (repeat show _∧_;first|refine yr ?_|refine yt ?_|refine yf ?_|refine yo ?_)
   refine ⟨some (P++[BitVec.ofNat 64 P.length*7#64],c'),[0,1,2,3,6],⟨⟨rfl,rfl,rfl⟩,?_⟩,⟨by rw [List.length_append,List.length_singleton]; exact hc',by rw [List.length_append,List.length_singleton]; omega,by rw [← h3]; exact (padE_step hlt).symm⟩,by dsimp only; rw [List.length_append,List.length_singleton]; omega⟩
   (repeat first|exact trivial|refine ent1 ?_)
   refine ⟨by rw [List.length_append,List.length_singleton],?_⟩
   (repeat first|exact trivial|refine ent1 ?_)
   exact ⟨fun j hj=>eqC_nums (app_nums rfl (fun j x h=>nums_get h) (congrArg SC.w64 (by rw [BitVec.ofInt_natCast]))) j,by (repeat first|exact trivial|refine ent1 ?_)⟩
  ·have hge:(evNames (kindE k)).length≤P.length:=by have:¬ (P.length:Int)<((evNames (kindE k)).length:Int):=of_decide_eq_false hge; omega
   rw [padE_done hge] at h3
   have hT:((padE e.N ((evNames (kindE k)).length-e.N.length)).take (evNames (kindE k)).length).map mk62=(P.take (evNames (kindE k)).length).map mk62:=by rw [← h3]
   have hTl:((P.take (evNames (kindE k)).length).map mk62).length=(evNames (kindE k)).length:=by simp only [List.length_map,List.length_take]; omega
   refine And.intro (show (0:Int)≤0∧(0:Int)≤((evNames (kindE k)).length:Int)∧((evNames (kindE k)).length:Int)≤(c:Int) by omega) ?_
   refine frcN_of (m:=0) rfl ?_
   refine frcN_of (m:=(evNames (kindE k)).length) (by omega) ?_
   refine frcN_of (m:=0) (by split <;> omega) ?_
   refine frcN_of (m:=(evNames (kindE k)).length) (by omega) ?_
   refine frcN_of (m:=c) (by omega) ?_
   (repeat show _∧_;first|refine yr ?_|refine yt ?_|refine yf ?_|refine yo ?_)
   refine .inl ⟨Nat,fun i=>⟨[.any,.a (.c (.w8 (k))),.a (.c (.p 1 0 0)),.any,.a (.c (.p 2 0 0)),.a (.c (.int .i64 (↑(evNames (kindE k)).length))),.a (.c (.bool ((evData (kindE k))))),.any,.any,.any,.any,.any,.any,.any,.any,.any,.any,.any,.any,.any,.any,.any,.any,.any,.any,.any,.any,.any,.any,.any,.any,.any,.any,.any,.any,.any,.any,.any,.any,.any,.any,.any,.any,.any,.any,.any,.a (.c (.int .i64 (↑(evNames (kindE k)).length))),.a (.c (.int .i64 (↑i))),.any,.any,.any,.any,.any,.any,.any,.any,.any,.any,.any,.any,.any,.any,.any,.any,.any,.any,.any,.any,.any,.any],[[.past W ms],[.one (.w8 (kindE k)),.one (.w64 (e.t % 1125899906842625#64)),.one (.sl 4 0 0 (evNames (kindE k)).length c),.one (.sl 3 0 0 e.D.length c2)],[.one (.w8 0),.one (.w64 0),.one (.slc none 0 0),.one (.slc none 0 0)],lsC e.D c2,[.row c (numsF (mskN i P))]]⟩,fun i=>i≤(evNames (kindE k)).length,fun i=>(evNames (kindE k)).length-i,⟨0,[0,1,2,3,4],⟨⟨rfl,rfl,rfl⟩,?_⟩,Nat.zero_le _⟩,fun i hi=>And.intro (fun hlt=>?_) (fun hge2=>?_)⟩
   ·(repeat first|exact trivial|refine ent1 ?_)
    exact ⟨fun j hj=>by rw [mskN_zero]; exact eqC_numsS,by (repeat first|exact trivial|refine ent1 ?_)⟩
   ·have hlt:i<(evNames (kindE k)).length:=by have:(i:Int)<((evNames (kindE k)).length:Int):=of_decide_eq_true hlt; omega
    obtain ⟨y,hy⟩:∃ y,P[i]?=some y:=⟨_,List.getElem?_eq_getElem (by omega)⟩
    have hmy:(mskN i P)[(i:Int).toNat+0]?=some y:=by rw [show (i:Int).toNat+0=i by omega,mskN_get hy,if_neg (by omega)]
    refine And.intro (show (0:Int)≤(i:Int)∧(i:Int)<((evNames (kindE k)).length:Int) by omega) ?_
    refine And.intro (show (i:Int).toNat+0<c by omega) ?_
    refine frc_nums hmy ?_
    refine And.intro (show (0:Int)≤(i:Int)∧(i:Int)<((evNames (kindE k)).length:Int) by omega) ?_
    refine And.intro (show (i:Int).toNat+0<c by omega) ?_
    (repeat show _∧_;first|refine yr ?_|refine yt ?_|refine yf ?_|refine yo ?_)
    refine ⟨i+1,[0,1,2,3,4],⟨⟨rfl,rfl,rfl⟩,?_⟩,by omega,by dsimp only; omega⟩
    (repeat first|exact trivial|refine ent1 ?_)
    exact ⟨fun j hj=>eqC_nums (fun j x h=>by rw [show (i:Int).toNat+0=i by omega]; exact msk_step hy j x h) j,by (repeat first|exact trivial|refine ent1 ?_)⟩
   ·obtain rfl:i=(evNames (kindE k)).length:=by have:¬ (i:Int)<((evNames (kindE k)).length:Int):=of_decide_eq_false hge2; omega
    (repeat show _∧_;first|refine yr ?_|refine yt ?_|refine yf ?_|refine yo ?_)
    cases hdt:evData (kindE k)
    ·refine And.intro (fun _=>?_) (fun h=>absurd h (by decide))
     (repeat show _∧_;first|refine yr ?_|refine yt ?_|refine yf ?_|refine yo ?_)
     have hDD:(if evData (kindE k)=true then e.D.take 20 else [])=[]:=by rw [hdt]; rfl
     refine finW_frz [0] rfl (Nat.zero_lt_one) cx0_m rfl (fun W' ms' α hL hI=>?_)
     have hfe:fitE e k=⟨kindE k,e.t % 1125899906842625#64,((padE e.N ((evNames (kindE k)).length-e.N.length)).take (evNames (kindE k)).length).map mk62,if evData (kindE k)=true then e.D.take 20 else []⟩:=rfl
     refine ⟨.a (.agg (evS (fitE e k) ⟨some ((α 4).add (0+0)),(evNames (kindE k)).length,c,none,0,0⟩)),[],⟨⟨rfl,rfl,rfl⟩,?_⟩,W',ms',⟨some ((α 4).add (0+0)),(evNames (kindE k)).length,c,none,0,0⟩,hL,⟨(by rw [show (fitE e k).N=_ from hT]; exact SlAt.frz (F:=fun j=>!memB j [0]) (hI 4 rfl) rfl (show (evNames (kindE k)).length≤c by omega) (show (evNames (kindE k)).length≤9223372036854775807 by omega) (by decide) (by rw [List.length_map,hTl,Nat.mul_one]) mask_fin (rz_w64 _)),(by rw [show (fitE e k).D=[] from hDD]; exact SlAt.nul)⟩,rfl,rfl⟩
     (repeat first|exact trivial|refine ent1 ?_)
    ·refine And.intro (fun h=>absurd h (by decide)) (fun _=>?_)
     have hmin:(if (20:Int)<(e.D.length:Int) then (20:Int) else (e.D.length:Int))=((e.D.take 20).length:Int):=by rw [List.length_take]; split <;> omega
     have hmle:(e.D.take 20).length≤c2:=by rw [List.length_take]; omega
     refine And.intro (show (0:Int)≤0∧(0:Int)≤(if (20:Int)<(e.D.length:Int) then (20:Int) else (e.D.length:Int))∧(if (20:Int)<(e.D.length:Int) then (20:Int) else (e.D.length:Int))≤(c2:Int) by rw [hmin]; omega) ?_
     refine frcN_of (m:=0) rfl ?_
     refine frcN_of (m:=(e.D.take 20).length) (by rw [hmin]; rfl) ?_
     refine frcN_of (m:=0) (by split <;> omega) ?_
     refine frcN_of (m:=(e.D.take 20).length) (by omega) ?_
     refine frcN_of (m:=c2) (by omega) ?_
     (repeat show _∧_;first|refine yr ?_|refine yt ?_|refine yf ?_|refine yo ?_)
     have hDD:(if evData (kindE k)=true then e.D.take 20 else [])=e.D.take 20:=by rw [hdt]; rfl
     refine finW_frz [0] rfl (Nat.zero_lt_one) cx0_m rfl (fun W' ms' α hL hI=>?_)
     have hfe:fitE e k=⟨kindE k,e.t % 1125899906842625#64,((padE e.N ((evNames (kindE k)).length-e.N.length)).take (evNames (kindE k)).length).map mk62,if evData (kindE k)=true then e.D.take 20 else []⟩:=rfl
     refine ⟨.a (.agg (evS (fitE e k) ⟨some ((α 4).add (0+0)),(evNames (kindE k)).length,c,some ((α 3).add (0+0)),(e.D.take 20).length,c2⟩)),[],⟨⟨rfl,rfl,rfl⟩,?_⟩,W',ms',⟨some ((α 4).add (0+0)),(evNames (kindE k)).length,c,some ((α 3).add (0+0)),(e.D.take 20).length,c2⟩,hL,⟨(by rw [show (fitE e k).N=_ from hT]; exact SlAt.frz (F:=fun j=>!memB j [0]) (hI 4 rfl) rfl (show (evNames (kindE k)).length≤c by omega) (show (evNames (kindE k)).length≤9223372036854775807 by omega) (by decide) (by rw [List.length_map,hTl,Nat.mul_one]) mask_fin (rz_w64 _)),(by rw [show (fitE e k).D=_ from hDD]; exact SlAt.frz (F:=fun j=>!memB j [0]) (hI 3 rfl) rfl (show (e.D.take 20).length≤c2 from hmle) (show (e.D.take 20).length≤9223372036854775807 by rw [List.length_take]; omega) (by decide) (by rw [List.length_map,Nat.mul_one]) take_fin (rz_w8 _))⟩,rfl,rfl⟩
     (repeat first|exact trivial|refine ent1 ?_)
set_option maxRecDepth 20000 in
set_option maxHeartbeats 16000000 in
theorem fn_efit00 {W:World} {ms:List Nat} {x:EvC} {e:Ev} (h:EvAt W ms x e) (hn:e.N.length≤1000) (hd:e.D.length≤1000) (hz:e.N.length=0) (hy:e.D.length=0) (k:BitVec 8):FnR Tryd.prog tds 11 1 [[.past W ms]] [.agg (evS e x),.c (.w8 k)] (fun _=>True)
  (fun y hs=>∃ W' ms' x',Later W ms W' ms'∧EvAt W' ms' x' (fitE e k)∧y=.a (.agg (evS (fitE e k) x'))∧hs=[[.past W' ms']]):=by
 refine fn_of_bodyW tds_ok follows_ Tryd.func11 rfl (t:=.a (.agg (evS e x))::.a (.c (.w8 k))::anys (Tryd.f11.ntmps-2)) rfl (fun w r0 hr _=>?_)
 obtain ⟨x0,rfl⟩:=List.length_eq_one_iff.1 hr
 have hm8:=many_le (kindE k)
 (repeat show _∧_;first|refine yr ?_|refine yt ?_|refine yf ?_|refine yo ?_)
 refine call_same (fn_ecl00 h (by omega) (by omega) hz hy) [0] rfl (by (repeat first|exact trivial|refine ent1 ?_)) (by (repeat first|exact trivial|refine ent1 ?_)) (fun _ _=>trivial) ?_
 rintro y hs' ⟨rfl,rfl⟩
 (repeat show _∧_;first|refine yr ?_|refine yt ?_|refine yf ?_|refine yo ?_)
 refine call_same (fn_many (kindE k) (kindE_ok k)) [] rfl (by (repeat first|exact trivial|refine ent1 ?_)) trivial (fun _ _=>trivial) ?_
 rintro y hs' ⟨rfl,rfl⟩
 (repeat show _∧_;first|refine yr ?_|refine yt ?_|refine yf ?_|refine yo ?_)
 refine .inl ⟨Option (List (BitVec 64) × Nat),fun x=>match x with
  | none=>⟨[.any,.a (.c (.w8 (k))),.a (.c (.p 1 0 0)),.any,.a (.c (.p 2 0 0)),.a (.c (.int .i64 (↑(evNames (kindE k)).length))),.a (.c (.bool ((evData (kindE k))))),.any,.any,.any,.any,.any,.any,.any,.any,.any,.any,.any,.any,.any,.any,.any,.any,.any,.any,.any,.any,.any,.any,.any,.any,.any,.any,.any,.any,.any,.any,.any,.any,.any,.any,.any,.any,.any,.any,.any,.any,.any,.any,.any,.any,.any,.any,.any,.any,.any,.any,.any,.any,.any,.any,.any,.any,.any,.any,.any,.any,.any,.any,.any],[[.past W ms],[.one (.w8 (kindE k)),.one (.w64 (e.t % 1125899906842625#64)),.one (.slc none 0 0),.one (.slc none 0 0)],[.one (.w8 0),.one (.w64 0),.one (.slc none 0 0),.one (.slc none 0 0)]]⟩
  | some (P,c)=>⟨[.any,.a (.c (.w8 (k))),.a (.c (.p 1 0 0)),.any,.a (.c (.p 2 0 0)),.a (.c (.int .i64 (↑(evNames (kindE k)).length))),.a (.c (.bool ((evData (kindE k))))),.any,.any,.any,.any,.any,.any,.any,.any,.any,.any,.any,.any,.any,.any,.any,.any,.any,.any,.any,.any,.any,.any,.any,.any,.any,.any,.any,.any,.any,.any,.any,.any,.any,.any,.any,.any,.any,.any,.any,.any,.any,.any,.any,.any,.any,.any,.any,.any,.any,.any,.any,.any,.any,.any,.any,.any,.any,.any,.any,.any,.any,.any,.any],[[.past W ms],[.one (.w8 (kindE k)),.one (.w64 (e.t % 1125899906842625#64)),.one (.sl 3 0 0 P.length c),.one (.slc none 0 0)],[.one (.w8 0),.one (.w64 0),.one (.slc none 0 0),.one (.slc none 0 0)],[.row c (numsF P)]]⟩,
  fun x=>match x with
  | none=>True
  | some (P,c)=>P.length≤c∧P.length≤1100∧padE P ((evNames (kindE k)).length-P.length)=padE e.N ((evNames (kindE k)).length-e.N.length),
  fun x=>match x with
  | none=>(evNames (kindE k)).length+1
  | some (P,c)=>(evNames (kindE k)).length-P.length,⟨none,[0,1,2],⟨⟨rfl,rfl,rfl⟩,by (repeat first|exact trivial|refine ent1 ?_)⟩,trivial⟩,fun x hx=>?_⟩
 have hN0:e.N=[]:=List.eq_nil_of_length_eq_zero hz
 rcases x with _|⟨P,c⟩
 ·refine And.intro (fun hlt=>?_) (fun hge=>?_)
  ·have hlt:0<(evNames (kindE k)).length:=by have:(0:Int)<((evNames (kindE k)).length:Int):=of_decide_eq_true hlt; omega
   (repeat show _∧_;first|refine yr ?_|refine yt ?_|refine yf ?_|refine yo ?_)
   intro c' hc'
   (repeat show _∧_;first|refine yr ?_|refine yt ?_|refine yf ?_|refine yo ?_)
   refine ⟨some ([BitVec.ofNat 64 0*7#64],c'),[0,1,2,4],⟨⟨rfl,rfl,rfl⟩,?_⟩,⟨hc',by decide,?_⟩,by dsimp only; simp only [List.length_singleton]; omega⟩
   ·(repeat first|exact trivial|refine ent1 ?_)
    exact ⟨fun j hj=>eqC_nums (new_nums rfl) j,by (repeat first|exact trivial|refine ent1 ?_)⟩
   ·have:=padE_step (P:=[]) (m:=(evNames (kindE k)).length) hlt
    rw [hN0]
    exact this.symm
  ·have hge:(evNames (kindE k)).length=0:=by have:¬ (0:Int)<((evNames (kindE k)).length:Int):=of_decide_eq_false hge; omega
   have hT:((padE e.N ((evNames (kindE k)).length-e.N.length)).take (evNames (kindE k)).length).map mk62=[]:=by rw [hge]; simp
   refine And.intro (show (0:Int)≤0∧(0:Int)≤((evNames (kindE k)).length:Int)∧((evNames (kindE k)).length:Int)≤((0:Nat):Int) by omega) ?_
   refine frcN_of (m:=0) rfl ?_
   refine frcN_of (m:=0) (by omega) ?_
   refine frcN_of (m:=0) rfl ?_
   refine frcN_of (m:=0) rfl ?_
   (repeat show _∧_;first|refine yr ?_|refine yt ?_|refine yf ?_|refine yo ?_)
   refine .inr ⟨1,?_⟩
   refine And.intro (fun h=>absurd h (by decide)) (fun _=>?_)
   cases hdt:evData (kindE k)
   ·refine And.intro (fun _=>?_) (fun h=>absurd h (by decide))
    (repeat show _∧_;first|refine yr ?_|refine yt ?_|refine yf ?_|refine yo ?_)
    have hDD:(if evData (kindE k)=true then e.D.take 20 else [])=[]:=by rw [hdt]; rfl
    refine finW_frz [0] rfl (Nat.zero_lt_one) cx0_m rfl (fun W' ms' α hL hI=>?_)
    have hfe:fitE e k=⟨kindE k,e.t % 1125899906842625#64,((padE e.N ((evNames (kindE k)).length-e.N.length)).take (evNames (kindE k)).length).map mk62,if evData (kindE k)=true then e.D.take 20 else []⟩:=rfl
    refine ⟨.a (.agg (evS (fitE e k) ⟨none,0,0,none,0,0⟩)),[],⟨⟨rfl,rfl,rfl⟩,?_⟩,W',ms',⟨none,0,0,none,0,0⟩,hL,⟨(by rw [show (fitE e k).N=[] from hT]; exact SlAt.nul),(by rw [show (fitE e k).D=[] from hDD]; exact SlAt.nul)⟩,rfl,rfl⟩
    (repeat first|exact trivial|refine ent1 ?_)
   ·refine And.intro (fun h=>absurd h (by decide)) (fun _=>?_)
    (repeat show _∧_;first|refine yr ?_|refine yt ?_|refine yf ?_|refine yo ?_)
    have hDD:(if evData (kindE k)=true then e.D.take 20 else [])=[]:=by rw [hdt,List.eq_nil_of_length_eq_zero hy]; rfl
    refine finW_frz [0] rfl (Nat.zero_lt_one) cx0_m rfl (fun W' ms' α hL hI=>?_)
    have hfe:fitE e k=⟨kindE k,e.t % 1125899906842625#64,((padE e.N ((evNames (kindE k)).length-e.N.length)).take (evNames (kindE k)).length).map mk62,if evData (kindE k)=true then e.D.take 20 else []⟩:=rfl
    refine ⟨.a (.agg (evS (fitE e k) ⟨none,0,0,none,0,0⟩)),[],⟨⟨rfl,rfl,rfl⟩,?_⟩,W',ms',⟨none,0,0,none,0,0⟩,hL,⟨(by rw [show (fitE e k).N=[] from hT]; exact SlAt.nul),(by rw [show (fitE e k).D=[] from hDD]; exact SlAt.nul)⟩,rfl,rfl⟩
    (repeat first|exact trivial|refine ent1 ?_)
 ·obtain ⟨h1,h2,h3⟩:=hx
  refine And.intro (fun hlt=>?_) (fun hge=>?_)
  ·have hlt:P.length<(evNames (kindE k)).length:=by have:(P.length:Int)<((evNames (kindE k)).length:Int):=of_decide_eq_true hlt; omega
   (repeat show _∧_;first|refine yr ?_|refine yt ?_|refine yf ?_|refine yo ?_)
   refine And.intro ⟨h1,by first|omega|(simp only [scale_eq]; omega),show (P.length+1)*8≤140737488355328 by omega⟩ ?_
   intro c' hc'
   (repeat show _∧_;first|refine yr ?_|refine yt ?_|refine yf ?_|refine yo ?_)
   refine ⟨some (P++[BitVec.ofNat 64 P.length*7#64],c'),[0,1,2,5],⟨⟨rfl,rfl,rfl⟩,?_⟩,⟨by rw [List.length_append,List.length_singleton]; exact hc',by rw [List.length_append,List.length_singleton]; omega,by rw [← h3]; exact (padE_step hlt).symm⟩,by dsimp only; rw [List.length_append,List.length_singleton]; omega⟩
   (repeat first|exact trivial|refine ent1 ?_)
   refine ⟨by rw [List.length_append,List.length_singleton],?_⟩
   (repeat first|exact trivial|refine ent1 ?_)
   exact ⟨fun j hj=>eqC_nums (app_nums rfl (fun j x h=>nums_get h) (congrArg SC.w64 (by rw [BitVec.ofInt_natCast]))) j,by (repeat first|exact trivial|refine ent1 ?_)⟩
  ·have hge:(evNames (kindE k)).length≤P.length:=by have:¬ (P.length:Int)<((evNames (kindE k)).length:Int):=of_decide_eq_false hge; omega
   rw [padE_done hge] at h3
   have hT:((padE e.N ((evNames (kindE k)).length-e.N.length)).take (evNames (kindE k)).length).map mk62=(P.take (evNames (kindE k)).length).map mk62:=by rw [← h3]
   have hTl:((P.take (evNames (kindE k)).length).map mk62).length=(evNames (kindE k)).length:=by simp only [List.length_map,List.length_take]; omega
   refine And.intro (show (0:Int)≤0∧(0:Int)≤((evNames (kindE k)).length:Int)∧((evNames (kindE k)).length:Int)≤(c:Int) by omega) ?_
   refine frcN_of (m:=0) rfl ?_
   refine frcN_of (m:=(evNames (kindE k)).length) (by omega) ?_
   refine frcN_of (m:=0) (by split <;> omega) ?_
   refine frcN_of (m:=(evNames (kindE k)).length) (by omega) ?_
   refine frcN_of (m:=c) (by omega) ?_
   (repeat show _∧_;first|refine yr ?_|refine yt ?_|refine yf ?_|refine yo ?_)
   refine .inl ⟨Nat,fun i=>⟨[.any,.a (.c (.w8 (k))),.a (.c (.p 1 0 0)),.any,.a (.c (.p 2 0 0)),.a (.c (.int .i64 (↑(evNames (kindE k)).length))),.a (.c (.bool ((evData (kindE k))))),.any,.any,.any,.any,.any,.any,.any,.any,.any,.any,.any,.any,.any,.any,.any,.any,.any,.any,.any,.any,.any,.any,.any,.any,.any,.any,.any,.any,.any,.any,.any,.any,.any,.any,.any,.any,.any,.any,.any,.a (.c (.int .i64 (↑(evNames (kindE k)).length))),.a (.c (.int .i64 (↑i))),.any,.any,.any,.any,.any,.any,.any,.any,.any,.any,.any,.any,.any,.any,.any,.any,.any,.any,.any,.any,.any,.any],[[.past W ms],[.one (.w8 (kindE k)),.one (.w64 (e.t % 1125899906842625#64)),.one (.sl 3 0 0 (evNames (kindE k)).length c),.one (.slc none 0 0)],[.one (.w8 0),.one (.w64 0),.one (.slc none 0 0),.one (.slc none 0 0)],[.row c (numsF (mskN i P))]]⟩,fun i=>i≤(evNames (kindE k)).length,fun i=>(evNames (kindE k)).length-i,⟨0,[0,1,2,3],⟨⟨rfl,rfl,rfl⟩,?_⟩,Nat.zero_le _⟩,fun i hi=>And.intro (fun hlt=>?_) (fun hge2=>?_)⟩
   ·(repeat first|exact trivial|refine ent1 ?_)
    exact ⟨fun j hj=>by rw [mskN_zero]; exact eqC_numsS,by (repeat first|exact trivial|refine ent1 ?_)⟩
   ·have hlt:i<(evNames (kindE k)).length:=by have:(i:Int)<((evNames (kindE k)).length:Int):=of_decide_eq_true hlt; omega
    obtain ⟨y,hy⟩:∃ y,P[i]?=some y:=⟨_,List.getElem?_eq_getElem (by omega)⟩
    have hmy:(mskN i P)[(i:Int).toNat+0]?=some y:=by rw [show (i:Int).toNat+0=i by omega,mskN_get hy,if_neg (by omega)]
    refine And.intro (show (0:Int)≤(i:Int)∧(i:Int)<((evNames (kindE k)).length:Int) by omega) ?_
    refine And.intro (show (i:Int).toNat+0<c by omega) ?_
    refine frc_nums hmy ?_
    refine And.intro (show (0:Int)≤(i:Int)∧(i:Int)<((evNames (kindE k)).length:Int) by omega) ?_
    refine And.intro (show (i:Int).toNat+0<c by omega) ?_
    (repeat show _∧_;first|refine yr ?_|refine yt ?_|refine yf ?_|refine yo ?_)
    refine ⟨i+1,[0,1,2,3],⟨⟨rfl,rfl,rfl⟩,?_⟩,by omega,by dsimp only; omega⟩
    (repeat first|exact trivial|refine ent1 ?_)
    exact ⟨fun j hj=>eqC_nums (fun j x h=>by rw [show (i:Int).toNat+0=i by omega]; exact msk_step hy j x h) j,by (repeat first|exact trivial|refine ent1 ?_)⟩
   ·obtain rfl:i=(evNames (kindE k)).length:=by have:¬ (i:Int)<((evNames (kindE k)).length:Int):=of_decide_eq_false hge2; omega
    (repeat show _∧_;first|refine yr ?_|refine yt ?_|refine yf ?_|refine yo ?_)
    cases hdt:evData (kindE k)
    ·refine And.intro (fun _=>?_) (fun h=>absurd h (by decide))
     (repeat show _∧_;first|refine yr ?_|refine yt ?_|refine yf ?_|refine yo ?_)
     have hDD:(if evData (kindE k)=true then e.D.take 20 else [])=[]:=by rw [hdt]; rfl
     refine finW_frz [0] rfl (Nat.zero_lt_one) cx0_m rfl (fun W' ms' α hL hI=>?_)
     have hfe:fitE e k=⟨kindE k,e.t % 1125899906842625#64,((padE e.N ((evNames (kindE k)).length-e.N.length)).take (evNames (kindE k)).length).map mk62,if evData (kindE k)=true then e.D.take 20 else []⟩:=rfl
     refine ⟨.a (.agg (evS (fitE e k) ⟨some ((α 3).add (0+0)),(evNames (kindE k)).length,c,none,0,0⟩)),[],⟨⟨rfl,rfl,rfl⟩,?_⟩,W',ms',⟨some ((α 3).add (0+0)),(evNames (kindE k)).length,c,none,0,0⟩,hL,⟨(by rw [show (fitE e k).N=_ from hT]; exact SlAt.frz (F:=fun j=>!memB j [0]) (hI 3 rfl) rfl (show (evNames (kindE k)).length≤c by omega) (show (evNames (kindE k)).length≤9223372036854775807 by omega) (by decide) (by rw [List.length_map,hTl,Nat.mul_one]) mask_fin (rz_w64 _)),(by rw [show (fitE e k).D=[] from hDD]; exact SlAt.nul)⟩,rfl,rfl⟩
     (repeat first|exact trivial|refine ent1 ?_)
    ·refine And.intro (fun h=>absurd h (by decide)) (fun _=>?_)
     (repeat show _∧_;first|refine yr ?_|refine yt ?_|refine yf ?_|refine yo ?_)
     have hDD:(if evData (kindE k)=true then e.D.take 20 else [])=[]:=by rw [hdt,List.eq_nil_of_length_eq_zero hy]; rfl
     refine finW_frz [0] rfl (Nat.zero_lt_one) cx0_m rfl (fun W' ms' α hL hI=>?_)
     have hfe:fitE e k=⟨kindE k,e.t % 1125899906842625#64,((padE e.N ((evNames (kindE k)).length-e.N.length)).take (evNames (kindE k)).length).map mk62,if evData (kindE k)=true then e.D.take 20 else []⟩:=rfl
     refine ⟨.a (.agg (evS (fitE e k) ⟨some ((α 3).add (0+0)),(evNames (kindE k)).length,c,none,0,0⟩)),[],⟨⟨rfl,rfl,rfl⟩,?_⟩,W',ms',⟨some ((α 3).add (0+0)),(evNames (kindE k)).length,c,none,0,0⟩,hL,⟨(by rw [show (fitE e k).N=_ from hT]; exact SlAt.frz (F:=fun j=>!memB j [0]) (hI 3 rfl) rfl (show (evNames (kindE k)).length≤c by omega) (show (evNames (kindE k)).length≤9223372036854775807 by omega) (by decide) (by rw [List.length_map,hTl,Nat.mul_one]) mask_fin (rz_w64 _)),(by rw [show (fitE e k).D=[] from hDD]; exact SlAt.nul)⟩,rfl,rfl⟩
     (repeat first|exact trivial|refine ent1 ?_)
end Sx
end
section
namespace Sx
open Go.RowKit Sha Vi Ev

theorem fn_efit {W:World} {ms:List Nat} {x:EvC} {e:Ev} (h:EvAt W ms x e) (hn:e.N.length≤1000) (hd:e.D.length≤1000) (k:BitVec 8):FnR Tryd.prog tds 11 1 [[.past W ms]] [.agg (evS e x),.c (.w8 k)] (fun _=>True)
  (fun y hs=>∃ W' ms' x',Later W ms W' ms'∧EvAt W' ms' x' (fitE e k)∧y=.a (.agg (evS (fitE e k) x'))∧hs=[[.past W' ms']]):=by
 rcases Nat.eq_zero_or_pos e.N.length with hz|hz <;> rcases Nat.eq_zero_or_pos e.D.length with hy|hy
 ·exact fn_efit00 h hn hd hz hy k
 ·exact fn_efit01 h hn hd hz hy k
 ·exact fn_efit10 h hn hd hz hy k
 ·exact fn_efit11 h hn hd hz hy k
structure EvsAt (W:World) (ms:List Nat) (a:Option Addr) (n c:Nat) (es:List Ev):Prop where
 len:es.length=n
 le:n≤c
 cap:n≤9223372036854775807
 nil:a=none→c=0
 elt:∀ A,a=some A→∀ k e,es[k]?=some e→∃ x,ImAt W ms (A.add (k*4)) (flat (evS e x))∧EvAt W ms x e
theorem EvsAt.later {W W':World} {ms ms':List Nat} {a:Option Addr} {n c:Nat} {es:List Ev} (h:EvsAt W ms a n c es) (k:Later W ms W' ms'):EvsAt W' ms' a n c es :=
 ⟨h.len,h.le,h.cap,h.nil,fun A ha j e he=>let ⟨x,h1,h2⟩:=h.elt A ha j e he; ⟨x,h1.later k,h2.later k⟩⟩
def lightE (es:List Ev):Bool:=decide (∀ e∈es,e.N.length≤30∧e.D.length≤100) && decide (es.length≤60)
set_option maxRecDepth 20000 in
set_option maxHeartbeats 8000000 in
theorem fn_light {W:World} {ms:List Nat} {a:Option Addr} {n c:Nat} {es:List Ev} (h:EvsAt W ms a n c es):FnR Tryd.prog tds 10 1 [[.past W ms]] [.c (.slc a n c)] (fun _=>True)
  (fun y hs=>y=.a (.c (.bool (lightE es)))∧hs=[[.past W ms]]):=by
 have hl:=h.len
 have hcap:=h.cap
 refine fn_of_body tds_ok follows_ Tryd.func10 rfl (t:=.a (.c (.slc a n c))::anys (Tryd.f10.ntmps-1)) rfl (fun w r0 hr _=>?_)
 obtain ⟨x0,rfl⟩:=List.length_eq_one_iff.1 hr
 (repeat show _∧_;first|refine yr ?_|refine yt ?_|refine yf ?_|refine yo ?_)
 refine .inl ⟨Nat,fun i=>⟨[.a (.c (.slc a n c)),.any,.any,.any,.any,.a (.c (.slc a n c)),.a (.c (.int .i64 (↑n))),.a (.c (.int .i64 (↑i))),.any,.any,.any,.any,.any,.any,.any,.any,.any,.any,.any,.any,.any,.any,.any,.any,.any],[[.past W ms]]⟩,fun i=>i≤n∧∀ j e,j<i→es[j]?=some e→e.N.length≤30∧e.D.length≤100,fun i=>n-i,⟨0,[0],⟨⟨rfl,rfl,rfl⟩,by (repeat first|exact trivial|refine ent1 ?_)⟩,Nat.zero_le _,fun j e hj=>absurd hj (Nat.not_lt_zero _)⟩,fun i ⟨hi,hall⟩=>And.intro (fun hlt=>?_) (fun hge=>?_)⟩
 ·have hlt:i<n:=by have:(i:Int)<(n:Int):=of_decide_eq_true hlt; omega
  obtain ⟨e,he⟩:∃ e,es[i]?=some e:=⟨_,List.getElem?_eq_getElem (by omega)⟩
  cases ha:a with
  | none=>have:=h.nil ha; have:=h.le; omega
  | some A =>
  obtain ⟨x,him,hx⟩:=h.elt A ha i e he
  have hnN:=hx.nN
  have hnD:=hx.nD
  obtain ⟨aN,nN,cN,aD,nD,cD⟩:=x
  dsimp only at hnN hnD
  subst hnN; subst hnD
  subst ha
  refine And.intro (show (0:Int)≤(i:Int)∧(i:Int)<(n:Int) by omega) ?_
  refine ⟨evS e ⟨aN,e.N.length,cN,aD,e.D.length,cD⟩,⟨RawAt.past (i:=0) rfl him,rfl⟩,?_⟩
  by_cases h1:30<e.N.length
  ·have e1:decide ((30:Int)<(e.N.length:Int))=true:=decide_eq_true (by omega)
   (repeat show _∧_;first|refine yr ?_|refine yt ?_|refine yf ?_|refine yt ?_ (by first|decide|(rw[e1];decide))|refine yf ?_ (by first|decide|(rw[e1];decide))|refine yo ?_)
   refine ⟨.a (.c (.bool (lightE es))),[[.past W ms]],⟨[0],⟨rfl,rfl,rfl⟩,?_⟩,rfl,rfl⟩
   have:lightE es=false:=by
    unfold lightE
    rw [decide_eq_false (fun hc=>by have:=(hc e (List.mem_of_getElem? he)).1; omega)]; rfl
   rw [this]
   (repeat first|exact trivial|refine ent1 ?_)
  have e1:decide ((30:Int)<(e.N.length:Int))=false:=decide_eq_false (by omega)
  by_cases h2:100<e.D.length
  ·have e2:decide ((100:Int)<(e.D.length:Int))=true:=decide_eq_true (by omega)
   (repeat show _∧_;first|refine yr ?_|refine yt ?_|refine yf ?_|refine yt ?_ (by first|decide|(rw[e1];decide)|(rw[e2];decide))|refine yf ?_ (by first|decide|(rw[e1];decide)|(rw[e2];decide))|refine yo ?_)
   refine ⟨.a (.c (.bool (lightE es))),[[.past W ms]],⟨[0],⟨rfl,rfl,rfl⟩,?_⟩,rfl,rfl⟩
   have:lightE es=false:=by
    unfold lightE
    rw [decide_eq_false (fun hc=>by have:=(hc e (List.mem_of_getElem? he)).2; omega)]; rfl
   rw [this]
   (repeat first|exact trivial|refine ent1 ?_)
  have e2:decide ((100:Int)<(e.D.length:Int))=false:=decide_eq_false (by omega)
  (repeat show _∧_;first|refine yr ?_|refine yt ?_|refine yf ?_|refine yt ?_ (by first|decide|(rw[e1];decide)|(rw[e2];decide))|refine yf ?_ (by first|decide|(rw[e1];decide)|(rw[e2];decide))|refine yo ?_)
  refine ⟨i+1,[0],⟨⟨rfl,rfl,rfl⟩,by (repeat first|exact trivial|refine ent1 ?_)⟩,⟨by omega,fun j e' hj he'=>?_⟩,by dsimp only; omega⟩
  by_cases hji:j=i
  ·subst hji; rw [he] at he'; injection he' with he'; subst he'; omega
  ·exact hall j e' (by omega) he'
 ·have hge:i=n:=by have:¬ (i:Int)<(n:Int):=of_decide_eq_false hge; omega
  subst hge
  have h1:lightE es=decide (es.length≤60):=by
   unfold lightE
   rw [decide_eq_true (fun e he=>by
    obtain ⟨j,hj,rfl⟩:=List.mem_iff_getElem.1 he
    exact hall j _ (by omega) (List.getElem?_eq_getElem hj))]
   rfl
  have h2:decide (es.length≤60)=decide ((i:Int)≤60):=by
   rw [hl]
   exact decide_eq_decide.2 (by omega)
  (repeat show _∧_;first|refine yr ?_|refine yt ?_|refine yf ?_|refine yo ?_)
  refine ⟨.a (.c (.bool (lightE es))),[[.past W ms]],⟨[0],⟨rfl,rfl,rfl⟩,?_⟩,rfl,rfl⟩
  rw [h1,h2]
  (repeat first|exact trivial|refine ent1 ?_)
end Sx
end
section
namespace Ev
def keyE (ks:Sha.Bs) (i:Nat):BitVec 8:=if i<ks.length then Sha.L ks i else BitVec.ofNat 8 i
def fit2E (e:Ev) (k:BitVec 8):Ev:=if (fitE e k).k=19#8 then fitE (fitE e k) 0#8 else fitE e k
def atE (t:BitVec 64) (e:Ev):BitVec 64:=if 1125899906842624#64<t+e.t % 100000#64 then 1125899906842624#64 else t+e.t % 100000#64
def rowE (ks:Sha.Bs):List Ev→Nat→BitVec 64→List Ev
 | [],_,_=>[]
 | e::r,i,t=>⟨(fit2E e (keyE ks i)).k,atE t (fit2E e (keyE ks i)),(fit2E e (keyE ks i)).N,(fit2E e (keyE ks i)).D⟩::rowE ks r (i+1) (atE t (fit2E e (keyE ks i)))
theorem rowE_len (ks:Sha.Bs):∀ (l:List Ev) (i:Nat) (t:BitVec 64),(rowE ks l i t).length=l.length
 | [],_,_=>rfl
 | e::r,i,t=>by rw [rowE,List.length_cons,rowE_len ks r]; rfl
theorem fitE_short (e:Ev) (k:BitVec 8) (hd:e.D.length≤1000):(fitE e k).N.length≤8∧(fitE e k).D.length≤20:=by
 have:=many_le (kindE k)
 refine ⟨?_,?_⟩
 ·show (((padE e.N _).take _).map mk62).length≤8
  rw [List.length_map,List.length_take]; omega
 ·show (if evData (kindE k)=true then e.D.take 20 else []).length≤20
  split
  ·rw [List.length_take]; omega
  ·decide
end Ev
namespace Sx
open Go.RowKit Sha Vi Ev

theorem eqC_raw {q:List Nat}:∀ {x:SC},x.raw=x→eqC q x x True
 | .any,_=>trivial
 | .int k n,_=>by cases k <;> exact ⟨rfl,trivial⟩
 | .w8 _,_=>⟨rfl,trivial⟩
 | .w16 _,_=>⟨rfl,trivial⟩
 | .w32 _,_=>⟨rfl,trivial⟩
 | .w64 _,_=>⟨rfl,trivial⟩
 | .bool _,_=>⟨rfl,trivial⟩
 | .str _,_=>⟨rfl,trivial⟩
 | .p ..,h=>by cases h
 | .sl ..,h=>by cases h
 | .ptr _,_=>⟨rfl,trivial⟩
 | .slc ..,_=>⟨rfl,trivial⟩
 | .ifc ..,_=>⟨rfl,trivial⟩
 | .nilIfc,_=>trivial
 | .fnv ..,_=>⟨rfl,trivial⟩
 | .clo ..,h=>by cases h
 | .nilFn,_=>trivial
 | .nilMap,_=>trivial
 | .sn ..,h=>by cases h
 | .mh _,h=>by cases h
 | .cap ..,h=>by cases h
structure RowAt (W:World) (ms:List Nat) (cs:List SC) (es:List Ev):Prop where
 len:cs.length=es.length*4
 raw:∀ x∈cs,x.raw=x
 elt:∀ k e,es[k]?=some e→∃ x,(∀ i y,(flat (evS e x))[i]?=some y→cs[k*4+i]?=some y)∧EvAt W ms x e
theorem RowAt.later {W W':World} {ms ms':List Nat} {cs:List SC} {es:List Ev} (h:RowAt W ms cs es) (k:Later W ms W' ms'):RowAt W' ms' cs es :=
 ⟨h.len,h.raw,fun j e he=>let ⟨x,h1,h2⟩:=h.elt j e he; ⟨x,h1,h2.later k⟩⟩
theorem RowAt.nil {W:World} {ms:List Nat}:RowAt W ms [] []:=⟨rfl,(fun x hx=>nomatch hx),fun k e h=>by simp at h⟩
theorem RowAt.snoc {W:World} {ms:List Nat} {cs:List SC} {es:List Ev} {e:Ev} {x:EvC} (h:RowAt W ms cs es) (hx:EvAt W ms x e):RowAt W ms (cs++flat (evS e x)) (es++[e]):=by
 have hl:=h.len
 refine ⟨by rw [List.length_append,hl,List.length_append,List.length_singleton]; show _+4=_; omega,fun y hy=>?_,fun k e' he=>?_⟩
 ·rcases List.mem_append.1 hy with hy|hy
  ·exact h.raw y hy
  ·simp only [flat,List.mem_cons,List.not_mem_nil,or_false] at hy
   rcases hy with rfl|rfl|rfl|rfl <;> rfl
 ·rcases Nat.lt_or_ge k es.length with hk|hk
  ·rw [List.getElem?_append_left hk] at he
   obtain ⟨z,h1,h2⟩:=h.elt k e' he
   refine ⟨z,fun i y hy=>?_,h2⟩
   have hi:=(List.getElem?_eq_some_iff.1 hy).1
   have h4:(flat (evS e' z)).length=4:=rfl
   rw [List.getElem?_append_left (by omega)]
   exact h1 i y hy
  ·rw [List.getElem?_append_right hk] at he
   have hk0:k-es.length=0:=by
    rcases Nat.eq_zero_or_pos (k-es.length) with h1|h1
    ·exact h1
    ·rw [List.getElem?_eq_none (by simp; omega)] at he; cases he
   rw [hk0] at he
   injection he with he
   subst he
   refine ⟨x,fun i y hy=>?_,hx⟩
   rw [List.getElem?_append_right (by omega),show k*4+i-cs.length=i by omega]
   exact hy
theorem sc4 (n:Nat):scale n (3+1)=n*4:=scale_eq _ _
theorem nthC_app_l {l m:List SC} {j:Nat} (h:j<l.length):nthC (l++m) j=nthC l j:=nthC_get? (by
 rw [List.getElem?_append_left h]
 have:∀ (l:List SC) (j:Nat),j<l.length→l[j]?=some (nthC l j):=by
  intro l
  induction l with
  | nil=>intro j h; simp at h
  | cons x l ih=>intro j h; cases j with
   | zero=>rfl
   | succ j=>rw [List.getElem?_cons_succ]; exact ih j (by simpa using h)
 exact this l j h)
theorem nthC_app_r {l m:List SC} {j:Nat} (h:l.length≤j):nthC (l++m) j=nthC m (j-l.length):=by
 induction l generalizing j with
 | nil=>rfl
 | cons x l ih =>
  cases j with
  | zero=>simp at h
  | succ j =>
   show nthC (l++m) j=_
   rw [ih (by simpa using h),List.length_cons,show j+1-(l.length+1)=j-l.length by omega]
theorem nthC_out {l:List SC} {j:Nat} (h:l.length≤j):nthC l j=.any:=by
 induction l generalizing j with
 | nil=>rfl
 | cons x l ih=>cases j with
  | zero=>simp at h
  | succ j=>exact ih (by simpa using h)
theorem nthC_mem {l:List SC} {j:Nat} (h:j<l.length):nthC l j∈l:=by
 induction l generalizing j with
 | nil=>simp at h
 | cons x l ih=>cases j with
  | zero=>exact List.mem_cons_self ..
  | succ j=>exact List.mem_cons_of_mem _ (ih (by simpa using h))
theorem eqC_cs {q:List Nat} {cs:List SC} (h:∀ x∈cs,x.raw=x) {f:Nat→SC} (hf:∀ j,j<cs.length→f j=nthC cs j) (j:Nat):eqC q (f j) (nthC cs j) True:=by
 rcases Nat.lt_or_ge j cs.length with hj|hj
 ·rw [hf j hj]; exact eqC_raw (h _ (nthC_mem hj))
 ·rw [nthC_out hj]; trivial
theorem mp_raw {g:Nat→Nat} {x:SC} (h:x.raw=x):SC.mp g x=x:=by
 cases x <;> simp only [SC.raw] at h <;> first|rfl|cases h
theorem app_cs {cs new:List SC} {n:Nat} {f g:Nat→SC} (hn:cs.length=n*4) (hf:∀ j,j<cs.length→f j=nthC cs j) (hw:new.length=4) (hg:∀ j,j<4→g j=nthC new j) (j:Nat) (hj:j<(cs++new).length):appF f 0 (scale n (3+1)) (scale 1 (3+1)) g j=nthC (cs++new) j:=by
 rw [List.length_append] at hj
 unfold appF
 rw [sc4,sc4]
 by_cases h:j<n*4
 ·rw [if_pos h,Nat.add_zero,hf j (by omega),nthC_app_l (by omega)]
 ·rw [if_neg h,if_pos (by omega),hg _ (by omega),nthC_app_r (by omega),hn]
theorem new_cs {new:List SC} {g:Nat→SC} (hw:new.length=4) (hg:∀ j,j<4→g j=nthC new j) (j:Nat) (hj:j<new.length):newF (scale 1 (3+1)) g j=nthC new j:=by
 rw [newF_lt (by rw [sc4]; omega),hg j (by omega)]
theorem updN_new {f:Nat→SC} {new:List SC} {j:Nat} (hj:j<4):updN f 0 4 (nthC new) (j+0)=nthC new j:=by
 unfold updN
 rw [if_pos ⟨Nat.zero_le _,by omega⟩]; rfl
set_option maxRecDepth 20000 in
set_option maxHeartbeats 16000000 in
theorem fn_erow {W:World} {ms:List Nat} {a:Option Addr} {n c:Nat} {es:List Ev} (h:EvsAt W ms a n c es) {aK:Option Addr} {nK cK:Nat} {ks:Bs} (hK:BsAt W ms aK nK cK ks) (hl:∀ e∈es,e.N.length≤30∧e.D.length≤100) (hn60:n≤60) (hn0:0<n) :
  FnR Tryd.prog tds 21 1 [[.past W ms]] [.c (.slc a n c),.c (.slc aK nK cK)] (fun _=>True)
  (fun y hs=>∃ W' ms' cs c',Later W ms W' ms'∧RowAt W' ms' cs (rowE ks es 0 0#64)∧n≤c'∧y=.a (.c (.sl 1 0 0 n c'))∧hs=[[.past W' ms'],[.row (scale c' (3+1)) (nthC cs)]]):=by
 have hlen:=h.len
 have hkl:=hK.n1
 refine fn_of_body tds_ok follows_ Tryd.func21 rfl (t:=.a (.c (.slc a n c))::.a (.c (.slc aK nK cK))::anys (Tryd.f21.ntmps-2)) rfl (fun w r0 hr _=>?_)
 obtain ⟨x0,rfl⟩:=List.length_eq_one_iff.1 hr
 cases ha:a with
 | none=>have:=h.nil ha; have:=h.le; omega
 | some A =>
 subst ha
 (repeat show _∧_;first|refine yr ?_|refine yt ?_|refine yf ?_|refine yo ?_)
 refine .inl ⟨Option (Nat × List Ev × List SC × Nat × BitVec 64 × World × List Nat),fun x=>match x with
  | none=>⟨[.a (.c (.slc (some A) n c)),.a (.c (.slc aK nK cK)),.any,.any,.any,.a (.c (.slc none 0 0)),.a (.c (.w64 (0))),.any,.any,.any,.a (.c (.slc (some A) n c)),.a (.c (.int .i64 (↑n))),.a (.c (.int .i64 (0))),.any,.any,.any,.any,.any,.any,.any,.any,.any,.any,.any,.any,.any,.any,.any,.any,.any,.any,.any,.any,.any,.any,.any,.any,.any,.any,.any,.any,.any,.any,.any,.any,.any,.any,.any,.any],[[.past W ms]]⟩
  | some (i,done,cs,c',t,W',ms')=>⟨[.a (.c (.slc (some A) n c)),.a (.c (.slc aK nK cK)),.any,.any,.any,.a (.c (.sl 1 0 0 i c')),.a (.c (.w64 (t))),.any,.any,.any,.a (.c (.slc (some A) n c)),.a (.c (.int .i64 (↑n))),.a (.c (.int .i64 (↑i))),.any,.any,.any,.any,.any,.any,.any,.any,.any,.any,.any,.any,.any,.any,.any,.any,.any,.any,.any,.any,.any,.any,.any,.any,.any,.any,.any,.any,.any,.any,.any,.any,.any,.any,.any,.any],[[.past W' ms'],[.row (scale c' (3+1)) (nthC cs)]]⟩,
  fun x=>match x with
  | none=>True
  | some (i,done,cs,c',t,W',ms')=>1≤i∧i≤n∧i≤c'∧Later W ms W' ms'∧RowAt W' ms' cs done∧done.length=i∧rowE ks es 0 0#64=done++rowE ks (es.drop i) i t,
  fun x=>match x with
  | none=>n+1
  | some (i,_,_,_,_,_,_)=>n-i,⟨none,[0],⟨⟨rfl,rfl,rfl⟩,by (repeat first|exact trivial|refine ent1 ?_)⟩,trivial⟩,fun x hp=>?_⟩
 rcases x with _|⟨i,done,cs,c',t,W',ms'⟩
 ·refine And.intro (fun hlt=>?_) (fun hge=>absurd (of_decide_eq_false hge) (by omega))
  ·have hlt:0<n:=by have:(0:Int)<(n:Int):=of_decide_eq_true hlt; omega
   obtain ⟨e,he⟩:∃ e,es[0]?=some e:=⟨_,List.getElem?_eq_getElem (by omega)⟩
   have hel:=hl e (List.mem_of_getElem? he)
   obtain ⟨x,him,hx⟩:=h.elt A rfl 0 e he
   refine And.intro (show (0:Int)≤(0:Int)∧(0:Int)<(n:Int) by omega) ?_
   refine ⟨evS e x,⟨RawAt.past (i:=0) rfl him,rfl⟩,?_⟩
   refine And.intro rfl ?_
   have rest:∀ kk:BitVec 8,kk=keyE ks 0→True:=fun _ _=>trivial
   by_cases hk:0<ks.length
   ·have ek:decide ((0:Int)<(nK:Int))=true:=decide_eq_true (by omega)
    cases haK:aK with
    | none=>subst haK; have:=hK.nil_.1; omega
    | some AK =>
    subst haK
    have hKle:=hK.le
    (repeat show _∧_;first|refine yr ?_|refine yt ?_|refine yf ?_|refine ya ek ?_|refine yb ek ?_|refine yo ?_)
    refine loadR (i:=0) rfl ((hK).im AK rfl (by omega)) (j:=0*1) (map_get? (show ks[0*1]?=some (L ks 0) by rw [Nat.mul_one,List.getElem?_eq_getElem hk,L_lt hk])) ?_
    (repeat show _∧_;first|refine yr ?_|refine yt ?_|refine yf ?_|refine yo ?_)
    refine call_past (fn_efit hx (by omega) (by omega) (L ks 0)) 0 [] rfl rfl (by (repeat first|exact trivial|refine ent1 ?_)) (by (repeat first|exact trivial|refine ent1 ?_)) (fun _ _=>trivial) (fun x hs hr=>?_) ?_
    ·obtain ⟨W',ms',x',h1,_,_,rfl⟩:=hr
     exact ⟨W',ms',rfl,h1⟩
    rintro y hs' ⟨W1,ms1,x1,hL1,hE1,rfl,rfl⟩
    have hs1:=fitE_short e (L ks 0) (by omega)
    have hkk:(L ks 0)=keyE ks 0:=by unfold keyE; rw [if_pos hk]
    rw [hkk] at hE1 hs1 ⊢
    by_cases h19:(fitE e (keyE ks 0)).k=19#8
    ·have e19:decide ((fitE e (keyE ks 0)).k=19#8)=true:=decide_eq_true h19
     (repeat show _∧_;first|refine yr ?_|refine yt ?_|refine yf ?_|refine ya e19 ?_|refine yb e19 ?_|refine yo ?_)
     refine call_past (fn_efit hE1 (by omega) (by omega) 0#8) 0 [] rfl rfl (by (repeat first|exact trivial|refine ent1 ?_)) (by (repeat first|exact trivial|refine ent1 ?_)) (fun _ _=>trivial) (fun x hs hr=>?_) ?_
     ·obtain ⟨W',ms',x',h1,_,_,rfl⟩:=hr
      exact ⟨W',ms',rfl,h1⟩
     rintro y hs' ⟨W2,ms2,x2,hL2,hE2,rfl,rfl⟩
     have hf2:fit2E e (keyE ks 0)=fitE (fitE e (keyE ks 0)) 0#8:=by unfold fit2E; rw [if_pos h19]
     obtain ⟨fe,hfe⟩:∃ fe,fitE (fitE e (keyE ks 0)) 0#8=fe:=⟨_,rfl⟩
     rw [hfe] at hE2 hf2 ⊢
     have hnew:EvAt W2 ms2 x2 (⟨fe.k,atE 0#64 fe,fe.N,fe.D⟩:Ev):=⟨hE2.N,hE2.D⟩
     (repeat show _∧_;first|refine yr ?_|refine yt ?_|refine yf ?_|refine yo ?_)
     refine And.intro (show 0+4≤4 by decide) ?_
     (repeat show _∧_;first|refine yr ?_|refine yt ?_|refine yf ?_|refine yo ?_)
     intro c2 hc2
     (repeat show _∧_;first|refine yr ?_|refine yt ?_|refine yf ?_|refine yo ?_)
     have hrw:RowAt W2 ms2 (flat (evS ⟨fe.k,atE 0#64 fe,fe.N,fe.D⟩ x2)) [⟨fe.k,atE 0#64 fe,fe.N,fe.D⟩]:=RowAt.nil.snoc hnew
     have hstep:rowE ks es 0 0#64=[⟨fe.k,atE 0#64 fe,fe.N,fe.D⟩]++rowE ks (es.drop 1) 1 (atE 0#64 fe):=by
      have hd:es=e::es.drop 1:=by
       have:=List.drop_eq_getElem_cons (l:=es) (i:=0) (by omega)
       rw [List.drop_zero] at this
       rw [List.getElem?_eq_getElem (by omega)] at he
       injection he with he
       rw [he] at this
       exact this
      conv=>lhs; rw [hd]
      rw [rowE,hf2]
      rfl
     refine ⟨some (1,[⟨fe.k,atE 0#64 fe,fe.N,fe.D⟩],flat (evS ⟨fe.k,atE 0#64 fe,fe.N,fe.D⟩ x2),c2,atE 0#64 fe,W2,ms2),[0,3],⟨⟨rfl,rfl,rfl⟩,?_⟩,⟨Nat.le_refl _,by omega,hc2,(hL1.trans hL2),hrw,rfl,hstep⟩,by dsimp only; omega⟩
     (repeat first|exact trivial|refine ent1 ?_)
     exact ⟨fun j hj=>eqC_cs hrw.raw (new_cs rfl fun j hj=>updN_new hj) j,by (repeat first|exact trivial|refine ent1 ?_)⟩
    ·have e19:decide ((fitE e (keyE ks 0)).k=19#8)=false:=decide_eq_false h19
     (repeat show _∧_;first|refine yr ?_|refine yt ?_|refine yf ?_|refine ya e19 ?_|refine yb e19 ?_|refine yo ?_)
     have hf2:fit2E e (keyE ks 0)=fitE e (keyE ks 0):=by unfold fit2E; rw [if_neg h19]
     obtain ⟨fe,hfe⟩:∃ fe,fitE e (keyE ks 0)=fe:=⟨_,rfl⟩
     rw [hfe] at hE1 hf2 ⊢
     have hnew:EvAt W1 ms1 x1 (⟨fe.k,atE 0#64 fe,fe.N,fe.D⟩:Ev):=⟨hE1.N,hE1.D⟩
     (repeat show _∧_;first|refine yr ?_|refine yt ?_|refine yf ?_|refine yo ?_)
     refine And.intro (show 0+4≤4 by decide) ?_
     (repeat show _∧_;first|refine yr ?_|refine yt ?_|refine yf ?_|refine yo ?_)
     intro c2 hc2
     (repeat show _∧_;first|refine yr ?_|refine yt ?_|refine yf ?_|refine yo ?_)
     have hrw:RowAt W1 ms1 (flat (evS ⟨fe.k,atE 0#64 fe,fe.N,fe.D⟩ x1)) [⟨fe.k,atE 0#64 fe,fe.N,fe.D⟩]:=RowAt.nil.snoc hnew
     have hstep:rowE ks es 0 0#64=[⟨fe.k,atE 0#64 fe,fe.N,fe.D⟩]++rowE ks (es.drop 1) 1 (atE 0#64 fe):=by
      have hd:es=e::es.drop 1:=by
       have:=List.drop_eq_getElem_cons (l:=es) (i:=0) (by omega)
       rw [List.drop_zero] at this
       rw [List.getElem?_eq_getElem (by omega)] at he
       injection he with he
       rw [he] at this
       exact this
      conv=>lhs; rw [hd]
      rw [rowE,hf2]
      rfl
     refine ⟨some (1,[⟨fe.k,atE 0#64 fe,fe.N,fe.D⟩],flat (evS ⟨fe.k,atE 0#64 fe,fe.N,fe.D⟩ x1),c2,atE 0#64 fe,W1,ms1),[0,3],⟨⟨rfl,rfl,rfl⟩,?_⟩,⟨Nat.le_refl _,by omega,hc2,hL1,hrw,rfl,hstep⟩,by dsimp only; omega⟩
     (repeat first|exact trivial|refine ent1 ?_)
     exact ⟨fun j hj=>eqC_cs hrw.raw (new_cs rfl fun j hj=>updN_new hj) j,by (repeat first|exact trivial|refine ent1 ?_)⟩
   ·have ek:decide ((0:Int)<(nK:Int))=false:=decide_eq_false (by omega)
    (repeat show _∧_;first|refine yr ?_|refine yt ?_|refine yf ?_|refine ya ek ?_|refine yb ek ?_|refine yo ?_)
    refine call_past (fn_efit hx (by omega) (by omega) (BitVec.ofInt 8 (0:Int))) 0 [] rfl rfl (by (repeat first|exact trivial|refine ent1 ?_)) (by (repeat first|exact trivial|refine ent1 ?_)) (fun _ _=>trivial) (fun x hs hr=>?_) ?_
    ·obtain ⟨W',ms',x',h1,_,_,rfl⟩:=hr
     exact ⟨W',ms',rfl,h1⟩
    rintro y hs' ⟨W1,ms1,x1,hL1,hE1,rfl,rfl⟩
    have hs1:=fitE_short e (BitVec.ofInt 8 (0:Int)) (by omega)
    have hkk:(BitVec.ofInt 8 (0:Int))=keyE ks 0:=by unfold keyE; rw [if_neg hk]; exact ofIntN 0
    rw [hkk] at hE1 hs1 ⊢
    by_cases h19:(fitE e (keyE ks 0)).k=19#8
    ·have e19:decide ((fitE e (keyE ks 0)).k=19#8)=true:=decide_eq_true h19
     (repeat show _∧_;first|refine yr ?_|refine yt ?_|refine yf ?_|refine ya e19 ?_|refine yb e19 ?_|refine yo ?_)
     refine call_past (fn_efit hE1 (by omega) (by omega) 0#8) 0 [] rfl rfl (by (repeat first|exact trivial|refine ent1 ?_)) (by (repeat first|exact trivial|refine ent1 ?_)) (fun _ _=>trivial) (fun x hs hr=>?_) ?_
     ·obtain ⟨W',ms',x',h1,_,_,rfl⟩:=hr
      exact ⟨W',ms',rfl,h1⟩
     rintro y hs' ⟨W2,ms2,x2,hL2,hE2,rfl,rfl⟩
     have hf2:fit2E e (keyE ks 0)=fitE (fitE e (keyE ks 0)) 0#8:=by unfold fit2E; rw [if_pos h19]
     obtain ⟨fe,hfe⟩:∃ fe,fitE (fitE e (keyE ks 0)) 0#8=fe:=⟨_,rfl⟩
     rw [hfe] at hE2 hf2 ⊢
     have hnew:EvAt W2 ms2 x2 (⟨fe.k,atE 0#64 fe,fe.N,fe.D⟩:Ev):=⟨hE2.N,hE2.D⟩
     (repeat show _∧_;first|refine yr ?_|refine yt ?_|refine yf ?_|refine yo ?_)
     refine And.intro (show 0+4≤4 by decide) ?_
     (repeat show _∧_;first|refine yr ?_|refine yt ?_|refine yf ?_|refine yo ?_)
     intro c2 hc2
     (repeat show _∧_;first|refine yr ?_|refine yt ?_|refine yf ?_|refine yo ?_)
     have hrw:RowAt W2 ms2 (flat (evS ⟨fe.k,atE 0#64 fe,fe.N,fe.D⟩ x2)) [⟨fe.k,atE 0#64 fe,fe.N,fe.D⟩]:=RowAt.nil.snoc hnew
     have hstep:rowE ks es 0 0#64=[⟨fe.k,atE 0#64 fe,fe.N,fe.D⟩]++rowE ks (es.drop 1) 1 (atE 0#64 fe):=by
      have hd:es=e::es.drop 1:=by
       have:=List.drop_eq_getElem_cons (l:=es) (i:=0) (by omega)
       rw [List.drop_zero] at this
       rw [List.getElem?_eq_getElem (by omega)] at he
       injection he with he
       rw [he] at this
       exact this
      conv=>lhs; rw [hd]
      rw [rowE,hf2]
      rfl
     refine ⟨some (1,[⟨fe.k,atE 0#64 fe,fe.N,fe.D⟩],flat (evS ⟨fe.k,atE 0#64 fe,fe.N,fe.D⟩ x2),c2,atE 0#64 fe,W2,ms2),[0,3],⟨⟨rfl,rfl,rfl⟩,?_⟩,⟨Nat.le_refl _,by omega,hc2,(hL1.trans hL2),hrw,rfl,hstep⟩,by dsimp only; omega⟩
     (repeat first|exact trivial|refine ent1 ?_)
     exact ⟨fun j hj=>eqC_cs hrw.raw (new_cs rfl fun j hj=>updN_new hj) j,by (repeat first|exact trivial|refine ent1 ?_)⟩
    ·have e19:decide ((fitE e (keyE ks 0)).k=19#8)=false:=decide_eq_false h19
     (repeat show _∧_;first|refine yr ?_|refine yt ?_|refine yf ?_|refine ya e19 ?_|refine yb e19 ?_|refine yo ?_)
     have hf2:fit2E e (keyE ks 0)=fitE e (keyE ks 0):=by unfold fit2E; rw [if_neg h19]
     obtain ⟨fe,hfe⟩:∃ fe,fitE e (keyE ks 0)=fe:=⟨_,rfl⟩
     rw [hfe] at hE1 hf2 ⊢
     have hnew:EvAt W1 ms1 x1 (⟨fe.k,atE 0#64 fe,fe.N,fe.D⟩:Ev):=⟨hE1.N,hE1.D⟩
     (repeat show _∧_;first|refine yr ?_|refine yt ?_|refine yf ?_|refine yo ?_)
     refine And.intro (show 0+4≤4 by decide) ?_
     (repeat show _∧_;first|refine yr ?_|refine yt ?_|refine yf ?_|refine yo ?_)
     intro c2 hc2
     (repeat show _∧_;first|refine yr ?_|refine yt ?_|refine yf ?_|refine yo ?_)
     have hrw:RowAt W1 ms1 (flat (evS ⟨fe.k,atE 0#64 fe,fe.N,fe.D⟩ x1)) [⟨fe.k,atE 0#64 fe,fe.N,fe.D⟩]:=RowAt.nil.snoc hnew
     have hstep:rowE ks es 0 0#64=[⟨fe.k,atE 0#64 fe,fe.N,fe.D⟩]++rowE ks (es.drop 1) 1 (atE 0#64 fe):=by
      have hd:es=e::es.drop 1:=by
       have:=List.drop_eq_getElem_cons (l:=es) (i:=0) (by omega)
       rw [List.drop_zero] at this
       rw [List.getElem?_eq_getElem (by omega)] at he
       injection he with he
       rw [he] at this
       exact this
      conv=>lhs; rw [hd]
      rw [rowE,hf2]
      rfl
     refine ⟨some (1,[⟨fe.k,atE 0#64 fe,fe.N,fe.D⟩],flat (evS ⟨fe.k,atE 0#64 fe,fe.N,fe.D⟩ x1),c2,atE 0#64 fe,W1,ms1),[0,3],⟨⟨rfl,rfl,rfl⟩,?_⟩,⟨Nat.le_refl _,by omega,hc2,hL1,hrw,rfl,hstep⟩,by dsimp only; omega⟩
     (repeat first|exact trivial|refine ent1 ?_)
     exact ⟨fun j hj=>eqC_cs hrw.raw (new_cs rfl fun j hj=>updN_new hj) j,by (repeat first|exact trivial|refine ent1 ?_)⟩
 ·obtain ⟨h1,h2,h3,hL,hrow,hdl,heq⟩:=hp
  refine And.intro (fun hlt=>?_) (fun hge=>?_)
  ·have hlt:i<n:=by have:(i:Int)<(n:Int):=of_decide_eq_true hlt; omega
   obtain ⟨e,he⟩:∃ e,es[i]?=some e:=⟨_,List.getElem?_eq_getElem (by omega)⟩
   have hel:=hl e (List.mem_of_getElem? he)
   obtain ⟨x,him,hx⟩:=h.elt A rfl i e he
   have him:=him.later hL
   have hx:=hx.later hL
   refine And.intro (show (0:Int)≤(i:Int)∧(i:Int)<(n:Int) by omega) ?_
   refine ⟨evS e x,⟨RawAt.past (i:=0) rfl him,rfl⟩,?_⟩
   refine And.intro rfl ?_
   have rest:∀ kk:BitVec 8,kk=keyE ks i→True:=fun _ _=>trivial
   by_cases hk:i<ks.length
   ·have ek:decide ((i:Int)<(nK:Int))=true:=decide_eq_true (by omega)
    cases haK:aK with
    | none=>subst haK; have:=hK.nil_.1; omega
    | some AK =>
    subst haK
    have hKle:=hK.le
    (repeat show _∧_;first|refine yr ?_|refine yt ?_|refine yf ?_|refine ya ek ?_|refine yb ek ?_|refine yo ?_)
    refine loadR (i:=0) rfl ((hK.later hL).im AK rfl (by omega)) (j:=i*1) (map_get? (show ks[i*1]?=some (L ks i) by rw [Nat.mul_one,List.getElem?_eq_getElem hk,L_lt hk])) ?_
    (repeat show _∧_;first|refine yr ?_|refine yt ?_|refine yf ?_|refine yo ?_)
    refine call_past (fn_efit hx (by omega) (by omega) (L ks i)) 0 [] rfl rfl (by (repeat first|exact trivial|refine ent1 ?_)) (by (repeat first|exact trivial|refine ent1 ?_)) (fun _ _=>trivial) (fun x hs hr=>?_) ?_
    ·obtain ⟨W',ms',x',h1,_,_,rfl⟩:=hr
     exact ⟨W',ms',rfl,h1⟩
    rintro y hs' ⟨W1,ms1,x1,hL1,hE1,rfl,rfl⟩
    have hs1:=fitE_short e (L ks i) (by omega)
    have hkk:(L ks i)=keyE ks i:=by unfold keyE; rw [if_pos hk]
    rw [hkk] at hE1 hs1 ⊢
    by_cases h19:(fitE e (keyE ks i)).k=19#8
    ·have e19:decide ((fitE e (keyE ks i)).k=19#8)=true:=decide_eq_true h19
     (repeat show _∧_;first|refine yr ?_|refine yt ?_|refine yf ?_|refine ya e19 ?_|refine yb e19 ?_|refine yo ?_)
     refine call_past (fn_efit hE1 (by omega) (by omega) 0#8) 0 [] rfl rfl (by (repeat first|exact trivial|refine ent1 ?_)) (by (repeat first|exact trivial|refine ent1 ?_)) (fun _ _=>trivial) (fun x hs hr=>?_) ?_
     ·obtain ⟨W',ms',x',h1,_,_,rfl⟩:=hr
      exact ⟨W',ms',rfl,h1⟩
     rintro y hs' ⟨W2,ms2,x2,hL2,hE2,rfl,rfl⟩
     have hf2:fit2E e (keyE ks i)=fitE (fitE e (keyE ks i)) 0#8:=by unfold fit2E; rw [if_pos h19]
     obtain ⟨fe,hfe⟩:∃ fe,fitE (fitE e (keyE ks i)) 0#8=fe:=⟨_,rfl⟩
     rw [hfe] at hE2 hf2 ⊢
     have hnew:EvAt W2 ms2 x2 (⟨fe.k,atE t fe,fe.N,fe.D⟩:Ev):=⟨hE2.N,hE2.D⟩
     (repeat show _∧_;first|refine yr ?_|refine yt ?_|refine yf ?_|refine yo ?_)
     refine And.intro (show 0+4≤4 by decide) ?_
     refine And.intro (show 0+scale 1 (3+1)≤4 by decide) ?_
     refine And.intro ⟨h3,by first|omega|(rw [sc4]; omega),show (i+1)*64≤140737488355328 by omega⟩ ?_
     intro c2 hc2
     (repeat show _∧_;first|refine yr ?_|refine yt ?_|refine yf ?_|refine yo ?_)
     have hrw:RowAt W2 ms2 (cs++flat (evS ⟨fe.k,atE t fe,fe.N,fe.D⟩ x2)) (done++[⟨fe.k,atE t fe,fe.N,fe.D⟩]):=(hrow.later (hL1.trans hL2)).snoc hnew
     have hstep:rowE ks es 0 0#64=(done++[⟨fe.k,atE t fe,fe.N,fe.D⟩])++rowE ks (es.drop (i+1)) (i+1) (atE t fe):=by
      have hd:=List.drop_eq_getElem_cons (l:=es) (i:=i) (by omega)
      rw [List.getElem?_eq_getElem (by omega)] at he
      injection he with he
      rw [he] at hd
      rw [heq,hd,rowE,hf2,List.append_assoc]
      rfl
     refine ⟨some (i+1,done++[⟨fe.k,atE t fe,fe.N,fe.D⟩],cs++flat (evS ⟨fe.k,atE t fe,fe.N,fe.D⟩ x2),c2,atE t fe,W2,ms2),[0,4],⟨⟨rfl,rfl,rfl⟩,?_⟩,⟨by omega,by omega,hc2,hL.trans (hL1.trans hL2),hrw,by rw [List.length_append,hdl]; rfl,hstep⟩,by dsimp only; omega⟩
     (repeat first|exact trivial|refine ent1 ?_)
     exact ⟨fun j hj=>eqC_cs hrw.raw (app_cs (by rw [hrow.len,hdl]) (fun _ _=>rfl) rfl fun j hj=>updN_new hj) j,by (repeat first|exact trivial|refine ent1 ?_)⟩
    ·have e19:decide ((fitE e (keyE ks i)).k=19#8)=false:=decide_eq_false h19
     (repeat show _∧_;first|refine yr ?_|refine yt ?_|refine yf ?_|refine ya e19 ?_|refine yb e19 ?_|refine yo ?_)
     have hf2:fit2E e (keyE ks i)=fitE e (keyE ks i):=by unfold fit2E; rw [if_neg h19]
     obtain ⟨fe,hfe⟩:∃ fe,fitE e (keyE ks i)=fe:=⟨_,rfl⟩
     rw [hfe] at hE1 hf2 ⊢
     have hnew:EvAt W1 ms1 x1 (⟨fe.k,atE t fe,fe.N,fe.D⟩:Ev):=⟨hE1.N,hE1.D⟩
     (repeat show _∧_;first|refine yr ?_|refine yt ?_|refine yf ?_|refine yo ?_)
     refine And.intro (show 0+4≤4 by decide) ?_
     refine And.intro (show 0+scale 1 (3+1)≤4 by decide) ?_
     refine And.intro ⟨h3,by first|omega|(rw [sc4]; omega),show (i+1)*64≤140737488355328 by omega⟩ ?_
     intro c2 hc2
     (repeat show _∧_;first|refine yr ?_|refine yt ?_|refine yf ?_|refine yo ?_)
     have hrw:RowAt W1 ms1 (cs++flat (evS ⟨fe.k,atE t fe,fe.N,fe.D⟩ x1)) (done++[⟨fe.k,atE t fe,fe.N,fe.D⟩]):=(hrow.later hL1).snoc hnew
     have hstep:rowE ks es 0 0#64=(done++[⟨fe.k,atE t fe,fe.N,fe.D⟩])++rowE ks (es.drop (i+1)) (i+1) (atE t fe):=by
      have hd:=List.drop_eq_getElem_cons (l:=es) (i:=i) (by omega)
      rw [List.getElem?_eq_getElem (by omega)] at he
      injection he with he
      rw [he] at hd
      rw [heq,hd,rowE,hf2,List.append_assoc]
      rfl
     refine ⟨some (i+1,done++[⟨fe.k,atE t fe,fe.N,fe.D⟩],cs++flat (evS ⟨fe.k,atE t fe,fe.N,fe.D⟩ x1),c2,atE t fe,W1,ms1),[0,4],⟨⟨rfl,rfl,rfl⟩,?_⟩,⟨by omega,by omega,hc2,hL.trans hL1,hrw,by rw [List.length_append,hdl]; rfl,hstep⟩,by dsimp only; omega⟩
     (repeat first|exact trivial|refine ent1 ?_)
     exact ⟨fun j hj=>eqC_cs hrw.raw (app_cs (by rw [hrow.len,hdl]) (fun _ _=>rfl) rfl fun j hj=>updN_new hj) j,by (repeat first|exact trivial|refine ent1 ?_)⟩
   ·have ek:decide ((i:Int)<(nK:Int))=false:=decide_eq_false (by omega)
    (repeat show _∧_;first|refine yr ?_|refine yt ?_|refine yf ?_|refine ya ek ?_|refine yb ek ?_|refine yo ?_)
    refine call_past (fn_efit hx (by omega) (by omega) (BitVec.ofInt 8 (i:Int))) 0 [] rfl rfl (by (repeat first|exact trivial|refine ent1 ?_)) (by (repeat first|exact trivial|refine ent1 ?_)) (fun _ _=>trivial) (fun x hs hr=>?_) ?_
    ·obtain ⟨W',ms',x',h1,_,_,rfl⟩:=hr
     exact ⟨W',ms',rfl,h1⟩
    rintro y hs' ⟨W1,ms1,x1,hL1,hE1,rfl,rfl⟩
    have hs1:=fitE_short e (BitVec.ofInt 8 (i:Int)) (by omega)
    have hkk:(BitVec.ofInt 8 (i:Int))=keyE ks i:=by unfold keyE; rw [if_neg hk]; exact ofIntN i
    rw [hkk] at hE1 hs1 ⊢
    by_cases h19:(fitE e (keyE ks i)).k=19#8
    ·have e19:decide ((fitE e (keyE ks i)).k=19#8)=true:=decide_eq_true h19
     (repeat show _∧_;first|refine yr ?_|refine yt ?_|refine yf ?_|refine ya e19 ?_|refine yb e19 ?_|refine yo ?_)
     refine call_past (fn_efit hE1 (by omega) (by omega) 0#8) 0 [] rfl rfl (by (repeat first|exact trivial|refine ent1 ?_)) (by (repeat first|exact trivial|refine ent1 ?_)) (fun _ _=>trivial) (fun x hs hr=>?_) ?_
     ·obtain ⟨W',ms',x',h1,_,_,rfl⟩:=hr
      exact ⟨W',ms',rfl,h1⟩
     rintro y hs' ⟨W2,ms2,x2,hL2,hE2,rfl,rfl⟩
     have hf2:fit2E e (keyE ks i)=fitE (fitE e (keyE ks i)) 0#8:=by unfold fit2E; rw [if_pos h19]
     obtain ⟨fe,hfe⟩:∃ fe,fitE (fitE e (keyE ks i)) 0#8=fe:=⟨_,rfl⟩
     rw [hfe] at hE2 hf2 ⊢
     have hnew:EvAt W2 ms2 x2 (⟨fe.k,atE t fe,fe.N,fe.D⟩:Ev):=⟨hE2.N,hE2.D⟩
     (repeat show _∧_;first|refine yr ?_|refine yt ?_|refine yf ?_|refine yo ?_)
     refine And.intro (show 0+4≤4 by decide) ?_
     refine And.intro (show 0+scale 1 (3+1)≤4 by decide) ?_
     refine And.intro ⟨h3,by first|omega|(rw [sc4]; omega),show (i+1)*64≤140737488355328 by omega⟩ ?_
     intro c2 hc2
     (repeat show _∧_;first|refine yr ?_|refine yt ?_|refine yf ?_|refine yo ?_)
     have hrw:RowAt W2 ms2 (cs++flat (evS ⟨fe.k,atE t fe,fe.N,fe.D⟩ x2)) (done++[⟨fe.k,atE t fe,fe.N,fe.D⟩]):=(hrow.later (hL1.trans hL2)).snoc hnew
     have hstep:rowE ks es 0 0#64=(done++[⟨fe.k,atE t fe,fe.N,fe.D⟩])++rowE ks (es.drop (i+1)) (i+1) (atE t fe):=by
      have hd:=List.drop_eq_getElem_cons (l:=es) (i:=i) (by omega)
      rw [List.getElem?_eq_getElem (by omega)] at he
      injection he with he
      rw [he] at hd
      rw [heq,hd,rowE,hf2,List.append_assoc]
      rfl
     refine ⟨some (i+1,done++[⟨fe.k,atE t fe,fe.N,fe.D⟩],cs++flat (evS ⟨fe.k,atE t fe,fe.N,fe.D⟩ x2),c2,atE t fe,W2,ms2),[0,4],⟨⟨rfl,rfl,rfl⟩,?_⟩,⟨by omega,by omega,hc2,hL.trans (hL1.trans hL2),hrw,by rw [List.length_append,hdl]; rfl,hstep⟩,by dsimp only; omega⟩
     (repeat first|exact trivial|refine ent1 ?_)
     exact ⟨fun j hj=>eqC_cs hrw.raw (app_cs (by rw [hrow.len,hdl]) (fun _ _=>rfl) rfl fun j hj=>updN_new hj) j,by (repeat first|exact trivial|refine ent1 ?_)⟩
    ·have e19:decide ((fitE e (keyE ks i)).k=19#8)=false:=decide_eq_false h19
     (repeat show _∧_;first|refine yr ?_|refine yt ?_|refine yf ?_|refine ya e19 ?_|refine yb e19 ?_|refine yo ?_)
     have hf2:fit2E e (keyE ks i)=fitE e (keyE ks i):=by unfold fit2E; rw [if_neg h19]
     obtain ⟨fe,hfe⟩:∃ fe,fitE e (keyE ks i)=fe:=⟨_,rfl⟩
     rw [hfe] at hE1 hf2 ⊢
     have hnew:EvAt W1 ms1 x1 (⟨fe.k,atE t fe,fe.N,fe.D⟩:Ev):=⟨hE1.N,hE1.D⟩
     (repeat show _∧_;first|refine yr ?_|refine yt ?_|refine yf ?_|refine yo ?_)
     refine And.intro (show 0+4≤4 by decide) ?_
     refine And.intro (show 0+scale 1 (3+1)≤4 by decide) ?_
     refine And.intro ⟨h3,by first|omega|(rw [sc4]; omega),show (i+1)*64≤140737488355328 by omega⟩ ?_
     intro c2 hc2
     (repeat show _∧_;first|refine yr ?_|refine yt ?_|refine yf ?_|refine yo ?_)
     have hrw:RowAt W1 ms1 (cs++flat (evS ⟨fe.k,atE t fe,fe.N,fe.D⟩ x1)) (done++[⟨fe.k,atE t fe,fe.N,fe.D⟩]):=(hrow.later hL1).snoc hnew
     have hstep:rowE ks es 0 0#64=(done++[⟨fe.k,atE t fe,fe.N,fe.D⟩])++rowE ks (es.drop (i+1)) (i+1) (atE t fe):=by
      have hd:=List.drop_eq_getElem_cons (l:=es) (i:=i) (by omega)
      rw [List.getElem?_eq_getElem (by omega)] at he
      injection he with he
      rw [he] at hd
      rw [heq,hd,rowE,hf2,List.append_assoc]
      rfl
     refine ⟨some (i+1,done++[⟨fe.k,atE t fe,fe.N,fe.D⟩],cs++flat (evS ⟨fe.k,atE t fe,fe.N,fe.D⟩ x1),c2,atE t fe,W1,ms1),[0,4],⟨⟨rfl,rfl,rfl⟩,?_⟩,⟨by omega,by omega,hc2,hL.trans hL1,hrw,by rw [List.length_append,hdl]; rfl,hstep⟩,by dsimp only; omega⟩
     (repeat first|exact trivial|refine ent1 ?_)
     exact ⟨fun j hj=>eqC_cs hrw.raw (app_cs (by rw [hrow.len,hdl]) (fun _ _=>rfl) rfl fun j hj=>updN_new hj) j,by (repeat first|exact trivial|refine ent1 ?_)⟩
  ·obtain rfl:i=n:=by have:¬ (i:Int)<(n:Int):=of_decide_eq_false hge; omega
   have hfin:rowE ks es 0 0#64=done:=by rw [heq,List.drop_eq_nil_of_le (by omega),rowE,List.append_nil]
   (repeat show _∧_;first|refine yr ?_|refine yt ?_|refine yf ?_|refine yo ?_)
   refine ⟨.a (.c (.sl 1 0 0 i c')),[[.past W' ms'],[.row (scale c' (3+1)) (nthC cs)]],⟨[0,1],⟨rfl,rfl,rfl⟩,?_⟩,W',ms',cs,c',hL,by rw [hfin]; exact hrow,h3,rfl,rfl⟩
   (repeat first|exact trivial|refine ent1 ?_)
   exact ⟨fun j hj=>eqC_cs hrow.raw (fun _ _=>rfl) j,trivial⟩
end Sx
end
section
namespace Ev
def sameE (a b:Ev):Prop:=a.k=b.k∧a.t=b.t∧a.N=b.N∧a.D=b.D
instance (a b:Ev):Decidable (sameE a b):=by unfold sameE; infer_instance
end Ev
namespace Sx
open Go.RowKit Sha Vi Ev

end Sx
end
section
namespace Vi
open Sha
def failM (l:Bs) (e x:Int):Bs × Int:=if x=0∨e≠0 then (l,e) else ([],x)
def nextM (l:Bs) (e:Int):(BitVec 64 × Nat × Bool) × Bs × Int :=
 if e≠0 then ((0#64,0,false),l,e) else
 if (takeM l).2.2≠0 then ((0#64,0,false),[],(takeM l).2.2) else (((takeM l).1,(takeM l).2.1,true),l.drop (takeM l).2.1,0)
def bytesM (l:Bs) (e many:Int):Bs × Bs × Int :=
 if e≠0 then ([],l,e) else if many<0∨(l.length:Int)<many then ([],[],3) else (l.take many.toNat,l.drop many.toNat,0)
end Vi
namespace Sx
open Sha Vi

end Sx
end
section
namespace Vi
open Sha
def endM (l:Bs) (e:Int):Bs × Int:=if 0<l.length then failM l e 24 else (l,e)
end Vi
namespace Sx
open Sha Vi

end Sx
end
section
namespace Vi
open Sha
def leastM (l:Bs) (e:Int):BitVec 64 × Bs × Int:=match nextM l e with
 | ((n,k,b),l',e')=>if b=false then (0#64,l',e') else if k≠lenN n then (0#64,failM l' e' 4) else (n,l',e')
end Vi
namespace Sx
open Go.RowKit Sha Vi Ev

end Sx
end
section
namespace Ev
open Vi Sha
def numsR:Nat→Bs→Int→List (BitVec 64) × Bs × Int
 | 0,l,e=>([],l,e)
 | k+1,l,e=>((leastM l e).1::(numsR k (leastM l e).2.1 (leastM l e).2.2).1,(numsR k (leastM l e).2.1 (leastM l e).2.2).2)
def failIf (c:Bool) (x:Int) (p:Bs × Int):Bs × Int:=if c=true then failM p.1 p.2 x else p
abbrev kindL (k:BitVec 64):BitVec 8:=BitVec.setWidth 8 (if 255#64<k then 255#64 else k)
abbrev manyL (m:BitVec 64):Int:=((if 20#64<m then 20#64 else m).toNat:Int)
def data1 (m:BitVec 64) (q:Bs × Int):Bs × Bs × Int:=bytesM q.1 q.2 (manyL m)
def take3 (kk:BitVec 8) (t:BitVec 64) (N:List (BitVec 64)) (p:Bs × Int):Ev × Bs × Int :=
 if evData kk=true then (⟨kk,t,N,(data1 (leastM p.1 p.2).1 (failIf (decide (20#64<(leastM p.1 p.2).1)) 4 (leastM p.1 p.2).2)).1⟩,(data1 (leastM p.1 p.2).1 (failIf (decide (20#64<(leastM p.1 p.2).1)) 4 (leastM p.1 p.2).2)).2)
 else (⟨kk,t,N,[]⟩,p)
def take2 (kk:BitVec 8) (t:BitVec 64) (q:Bs × Int):Ev × Bs × Int:=take3 kk t (numsR (evNames kk).length q.1 q.2).1 (numsR (evNames kk).length q.1 q.2).2
def take1 (kk:BitVec 8) (last:BitVec 64) (p:Bs × Int):Ev × Bs × Int :=
 take2 kk (last+(leastM p.1 p.2).1) (failIf (decide (1125899906842624#64<last+(leastM p.1 p.2).1)) 21 (leastM p.1 p.2).2)
def takeE (l:Bs) (e:Int) (last:BitVec 64):Ev × Bs × Int :=
 if (leastM l e).2.2≠0 then (⟨0#8,0#64,[],[]⟩,(leastM l e).2) else take1 (kindL (leastM l e).1) last (failIf (!evOk (kindL (leastM l e).1)) 5 (leastM l e).2)
theorem take1_eq {kk:BitVec 8} {last n:BitVec 64} {l l':Bs} {e e':Int} (h:leastM l e=(n,l',e')):take1 kk last (l,e)=take2 kk (last+n) (failIf (decide (1125899906842624#64<last+n)) 21 (l',e')):=by
 unfold take1; rw [h]
theorem take3_no {kk:BitVec 8} {t:BitVec 64} {N:List (BitVec 64)} {p:Bs × Int} (h:evData kk=false):take3 kk t N p=(⟨kk,t,N,[]⟩,p):=by
 unfold take3; rw [h,if_neg (by decide)]
theorem take3_ok {kk:BitVec 8} {t m:BitVec 64} {N:List (BitVec 64)} {l l':Bs} {e e':Int} (h:evData kk=true) (hm:leastM l e=(m,l',e')) {D l2:Bs} {e2:Int} (hd:data1 m (failIf (decide (20#64<m)) 4 (l',e'))=(D,l2,e2)):take3 kk t N (l,e)=(⟨kk,t,N,D⟩,l2,e2):=by
 unfold take3; rw [h,if_pos rfl]; simp only [hm]; rw [hd]
end Ev
namespace Sx
open Go.RowKit Sha Vi Ev

theorem bytes_fin {D:Bs} (j:Nat) (x:SC) (h:(D.map SC.w8)[j]?=some x):bytesF D.length (L D) j=x:=by
 rw [List.getElem?_map,Option.map_eq_some_iff] at h
 obtain ⟨b,hb,rfl⟩:=h
 exact bytes_get hb (Nat.le_refl _) D rfl (fun i hi=>rfl)
theorem bytes_finM {g:Nat→Nat} {D:Bs} (j:Nat) (x:SC) (h:(D.map SC.w8)[j]?=some x):SC.mp g (bytesF D.length (L D) j)=x:=by
 rw [bytes_fin j x h]
 rw [List.getElem?_map,Option.map_eq_some_iff] at h
 obtain ⟨b,hb,rfl⟩:=h
 rfl
theorem nums_fin {P:List (BitVec 64)} (j:Nat) (x:SC) (h:(P.map SC.w64)[j]?=some x):numsF P j=x:=by
 rw [List.getElem?_map,Option.map_eq_some_iff] at h
 obtain ⟨b,hb,rfl⟩:=h
 exact nums_get hb
end Sx
end
section
namespace Ev
open Vi Sha
def evsR : Nat → BitVec 64 → Bs → Int → List Ev × Bs × Int
  | 0, _, l, e => ([], l, e)
  | k + 1, last, l, e => if e ≠ 0 then ([], l, e) else
    ((takeE l e last).1 :: (evsR k (takeE l e last).1.t (failIf (decide ((takeE l e last).1.k = 19#8) && decide (k ≠ 0)) 10 (takeE l e last).2).1 (failIf (decide ((takeE l e last).1.k = 19#8) && decide (k ≠ 0)) 10 (takeE l e last).2).2).1,
     (evsR k (takeE l e last).1.t (failIf (decide ((takeE l e last).1.k = 19#8) && decide (k ≠ 0)) 10 (takeE l e last).2).1 (failIf (decide ((takeE l e last).1.k = 19#8) && decide (k ≠ 0)) 10 (takeE l e last).2).2).2)
def finD (r:List Ev × Bs × Int):List Ev × Int:=if (endM r.2.1 r.2.2).2≠0 then ([],(endM r.2.1 r.2.2).2) else (r.1,0)
def dec3 (m:BitVec 64) (q:Bs × Int):List Ev × Int:=finD (evsR m.toNat 0#64 q.1 q.2)
def dec2 (p:Bs × Int):List Ev × Int:=dec3 (leastM p.1 p.2).1 (failIf (decide (2048#64<(leastM p.1 p.2).1)) 7 (leastM p.1 p.2).2)
def decM (b:Bs):List Ev × Int:=dec2 (failIf (decide ((bytesM b 0 4).2.2=0) && decide (U8 (bytesM b 0 4).1≠[66,73,78,49])) 4 (bytesM b 0 4).2)
theorem evsR_step {k:Nat} {last:BitVec 64} {l l1 l2:Bs} {e1 e2:Int} {ev:Ev} (h:takeE l 0 last=(ev,l1,e1)) (hf:failIf (decide (ev.k=19#8) && decide (k≠0)) 10 (l1,e1)=(l2,e2)) :
  evsR (k+1) last l 0=(ev::(evsR k ev.t l2 e2).1,(evsR k ev.t l2 e2).2):=by
 rw [evsR,if_neg (by decide),h]; dsimp only; rw [hf]
end Ev
namespace Sx
open Go.RowKit Sha Vi Ev

theorem EvsAt.nul {W:World} {ms:List Nat}:EvsAt W ms none 0 0 []:=⟨rfl,Nat.le_refl _,by decide,fun _=>rfl,fun A h=>by cases h⟩
theorem rz_raw {F:Nat→Bool} {α:Nat→Addr} {x:SC} (h:x.raw=x):(x.rz F α).raw=x:=by
 cases x <;> simp only [SC.raw] at h <;> first|rfl|cases h
theorem nthC_get {l:List SC} {j:Nat} (h:j<l.length):l[j]?=some (nthC l j):=by
 obtain ⟨x,hx⟩:∃ x,l[j]?=some x:=⟨_,List.getElem?_eq_getElem h⟩
 rw [hx,nthC_get? hx]
theorem RowAt.frz {W0 W:World} {ms0 ms:List Nat} {A:Addr} {F:Nat→Bool} {α:Nat→Addr} {n c:Nat} {cs:List SC} {es:List Ev} (k:RowAt W0 ms0 cs es) (hL:Later W0 ms0 W ms)
  (h:flat [.row (scale c (3+1)) (nthC cs)]≠[]→ImAt W ms A (((flat [.row (scale c (3+1)) (nthC cs)]).map (SC.rz F α)).map SC.raw)) (hn:es.length=n) (hc:n≤c) (hcap:n≤9223372036854775807):EvsAt W ms (some (A.add (0+0))) n c es:=by
 refine ⟨hn,hc,hcap,(fun e=>by cases e),fun B hB j e he=>?_⟩
 injection hB with hB
 subst hB
 obtain ⟨x,h1,h2⟩:=k.elt j e he
 have hj:j<n:=by rw [← hn]; exact (List.getElem?_eq_some_iff.1 he).1
 have hne:flat [.row (scale c (3+1)) (nthC cs)]≠[]:=by
  intro e
  have:=congrArg List.length e
  simp [flat,sc4] at this
  omega
 refine ⟨x,(((h hne).part (0+0) (m:=((flat [.row (scale c (3+1)) (nthC cs)]).map (SC.rz F α)).map SC.raw) (fun j x hx=>by simpa using hx)).part (j*4) fun i y hy=>?_),h2.later hL⟩
 have hi:i<4:=(List.getElem?_eq_some_iff.1 hy).1
 have hcs:=h1 i y hy
 have hlen:=k.len
 have hjn:j*4+i<scale c (3+1):=by rw [sc4]; omega
 rw [List.getElem?_map,List.getElem?_map]
 simp only [flat,List.append_nil,List.getElem?_map,List.getElem?_range hjn,Option.map_some]
 have hraw:=k.raw y (List.mem_of_getElem? hcs)
 rw [nthC_get? hcs,rz_raw hraw]
end Sx
end
section
namespace Vi
open Sha
def longL (l:Bs):Bs:=putL (BitVec.ofNat 64 l.length)++l
theorem lenN_of {n:Nat} (h:n≤1000000):lenN (BitVec.ofNat 64 n)≠0:=by
 have:=lenN_spec (BitVec.ofNat 64 n)
 rw [BitVec.toNat_ofNat,Nat.mod_eq_of_lt (by omega)] at this
 omega
end Vi
namespace Sx
open Sha Vi

end Sx
end
section
namespace Ev
open Vi Sha
def evB (last:BitVec 64) (e:Ev):Bs:=putAll [BitVec.setWidth 64 e.k,e.t-last]++putAll e.N++(if evData e.k=true then longL e.D else [])
def encL:List Ev→BitVec 64→Bs→Bs × Int
 | [],_,b=>(b,0)
 | e::r,last,b=>if checkM e≠0 then ([],checkM e) else if e.t<last then ([],21) else if e.k=19#8∧r≠[] then ([],10) else encL r e.t (b++evB last e)
def encM (es:List Ev):Bs × Int:=if 2048<es.length then ([],7) else encL es 0#64 ([66#8,73#8,78#8,49#8]++putAll [BitVec.ofNat 64 es.length])
theorem lenN_lt {n:BitVec 64} (h:n.toNat<4611686018427387904):lenN n≠0:=by
 have:=lenN_spec n
 omega
structure EvOk (e:Ev):Prop where
 k:evOk e.k=true
 t:e.t.toNat≤1125899906842624
 N:e.N.length≤8
 D:e.D.length≤20
 n:∀ n∈e.N,lenN n≠0
theorem check_ok {e:Ev} (h:checkM e=0):EvOk e:=by
 unfold checkM at h
 cases h1:evOk e.k
 ·rw [h1,if_pos rfl] at h; cases h
 rw [h1,if_neg (by decide)] at h
 by_cases h2:1125899906842624#64<e.t
 ·rw [if_pos h2] at h; cases h
 rw [if_neg h2] at h
 by_cases h3:e.N.length≠(evNames e.k).length
 ·rw [if_pos h3] at h; cases h
 rw [if_neg h3] at h
 by_cases h4:20<e.D.length
 ·rw [if_pos h4] at h; cases h
 rw [if_neg h4] at h
 by_cases h5:0<e.D.length∧evData e.k=false
 ·rw [if_pos h5] at h; cases h
 rw [if_neg h5] at h
 by_cases h6:∃ n∈e.N,4611686018427387903#64<n
 ·rw [if_pos h6] at h; cases h
 have hm:=many_le e.k
 refine ⟨h1,?_,by omega,by omega,fun n hn=>lenN_lt ?_⟩
 ·rw [BitVec.lt_def] at h2
  have:(1125899906842624#64).toNat=1125899906842624:=rfl
  omega
 ·have h7:¬ 4611686018427387903#64<n:=fun hc=>h6 ⟨n,hn,hc⟩
  rw [BitVec.lt_def] at h7
  have:(4611686018427387903#64).toNat=4611686018427387903:=rfl
  omega
end Ev
namespace Sx
open Go.RowKit Sha Vi Ev

end Sx
end
section
namespace Ev
end Ev
namespace Sx
open Go.RowKit Sha Vi Ev

end Sx
end
section
namespace Vi
open Sha
theorem nx_putE {n:BitVec 64} (h0:lenN n≠0) (r:Bs):nextM (putL n++r) 0=((n,lenN n,true),r,0):=by
 have hk:=lenN_ok h0
 obtain ⟨h1,h2⟩:=take_wide hk h0 (Nat.le_refl _) r
 have hl:(putL n).length=lenN n:=wideL_len _ _
 have hpos:0<lenN n:=by omega
 have ht:takeM (putL n++r)=(n,lenN n,0):=by
  unfold takeM
  rw [if_neg (by rw [show sizeT (L (putL n++r) 0)=lenN n from h1,List.length_append]; omega)]
  rw [show sizeT (L (putL n++r) 0)=lenN n from h1,show numT (putL n++r) (lenN n-1)=n from h2]
 unfold nextM
 rw [if_neg (by decide),ht]
 show (if (0:Int)≠0 then _ else ((n,lenN n,true),(putL n++r).drop (lenN n),0))=_
 rw [if_neg (by decide),← hl,List.drop_left]
theorem least_put {n:BitVec 64} (h0:lenN n≠0) (r:Bs):leastM (putL n++r) 0=(n,r,0):=by
 unfold leastM; rw [nx_putE h0]
 show (if true=false then _ else if lenN n≠lenN n then _ else _)=_
 rw [if_neg (by decide),if_neg (fun h=>h rfl)]
end Vi
end
section
namespace Ev
open Vi Sha
theorem numsR_put:∀ (N:List (BitVec 64)) (r:Bs),(∀ n∈N,lenN n≠0)→numsR N.length (putAll N++r) 0=(N,r,0)
 | [],r,_=>rfl
 | n::N,r,h=>by
  show numsR (N.length+1) ((putL n++putAll N)++r) 0=_
  rw [List.append_assoc,numsR,least_put (h n (List.mem_cons_self ..))]
  dsimp only
  rw [numsR_put N r fun m hm=>h m (List.mem_cons_of_mem _ hm)]
theorem min20 {m:BitVec 64} (h:¬ 20#64<m):manyL m=(m.toNat:Int)∧m.toNat≤20:=by
 unfold manyL
 rw [if_neg h]
 rw [BitVec.lt_def] at h
 have:(20#64).toNat=20:=rfl
 exact ⟨rfl,by omega⟩
theorem take3_put {e:Ev} (r:Bs) (h1:e.D.length≤20) (h2:evData e.k=false→e.D=[]):take3 e.k e.t e.N ((if evData e.k=true then longL e.D else [])++r,0)=(e,r,0):=by
 cases hd:evData e.k
 ·rw [take3_no hd]
  have:=h2 hd
  cases e
  dsimp only at this ⊢
  subst this
  rfl
 ·rw [if_pos rfl]
  have hl:lenN (BitVec.ofNat 64 e.D.length)≠0:=lenN_of (by omega)
  have hx:leastM (longL e.D++r) 0=(BitVec.ofNat 64 e.D.length,e.D++r,0):=by
   show leastM ((putL _++e.D)++r) 0=_
   rw [List.append_assoc,least_put hl]
  have hm:(BitVec.ofNat 64 e.D.length).toNat=e.D.length:=by rw [BitVec.toNat_ofNat]; omega
  have hlt:¬ 20#64<BitVec.ofNat 64 e.D.length:=by
   rw [BitVec.lt_def,hm]
   have:(20#64).toNat=20:=rfl
   omega
  refine take3_ok hd hx (D:=e.D) (l2:=r) (e2:=0) ?_
  rw [decide_eq_false hlt]
  show bytesM (e.D++r) 0 (manyL _)=_
  rw [(min20 hlt).1,hm]
  unfold bytesM
  rw [if_neg (by decide),if_neg (by rw [List.length_append]; omega)]
  rw [Int.toNat_natCast,List.take_left,List.drop_left]
theorem kind_put {k:BitVec 8}:kindL (BitVec.setWidth 64 k)=k:=by
 unfold kindL
 have:=k.isLt
 rw [if_neg (by rw [BitVec.lt_def,BitVec.toNat_setWidth]; have:(255#64).toNat=255:=rfl; omega)]
 apply BitVec.eq_of_toNat_eq
 rw [BitVec.toNat_setWidth,BitVec.toNat_setWidth]
 omega
structure GoodE (last:BitVec 64) (e:Ev):Prop where
 k:evOk e.k=true
 lo:last.toNat≤e.t.toNat
 hi:e.t.toNat≤1125899906842624
 N:e.N.length=(evNames e.k).length
 n:∀ n∈e.N,lenN n≠0
 D:e.D.length≤20
 nD:evData e.k=false→e.D=[]
theorem take_put_ev {last:BitVec 64} {ev:Ev} (h:GoodE last ev) (r:Bs):takeE (evB last ev++r) 0 last=(ev,r,0):=by
 have h1:=h.lo
 have h2:=h.hi
 have hsub:(ev.t-last).toNat=ev.t.toNat-last.toNat:=by rw [BitVec.toNat_sub]; omega
 have hadd:last+(ev.t-last)=ev.t:=by
  apply BitVec.eq_of_toNat_eq
  rw [BitVec.toNat_add,hsub]; omega
 have hl1:lenN (BitVec.setWidth 64 ev.k)≠0:=lenN_lt (by rw [BitVec.toNat_setWidth]; have:=ev.k.isLt; omega)
 have hl2:lenN (ev.t-last)≠0:=lenN_lt (by omega)
 have hb:evB last ev++r=putL (BitVec.setWidth 64 ev.k)++(putL (ev.t-last)++(putAll ev.N++((if evData ev.k=true then longL ev.D else [])++r))):=by
  unfold evB
  show ((putL _++(putL _++[]))++putAll ev.N++_)++r=_
  simp only [List.append_assoc,List.append_nil]
 have hM:(1125899906842624#64).toNat=1125899906842624:=rfl
 rw [hb]
 unfold takeE
 rw [least_put hl1]
 dsimp only
 rw [if_neg (by decide),kind_put,h.k]
 show take1 ev.k last (_,0)=_
 rw [take1_eq (least_put hl2 _),hadd,decide_eq_false (by rw [BitVec.lt_def]; omega)]
 show take2 ev.k ev.t (_,0)=_
 unfold take2
 dsimp only
 rw [← h.N,numsR_put _ _ h.n]
 exact take3_put r h.D h.nD
end Ev
end
section
namespace Ev
open Vi Sha
def catE:BitVec 64→List Ev→Bs
 | _,[]=>[]
 | last,e::r=>evB last e++catE e.t r
def GoodL:BitVec 64→List Ev→Prop
 | _,[]=>True
 | last,e::r=>GoodE last e∧(e.k=19#8→r=[])∧GoodL e.t r
theorem GoodE.check {last:BitVec 64} {e:Ev} (h:GoodE last e):checkM e=0∧¬ e.t<last:=by
 have hM:(1125899906842624#64).toNat=1125899906842624:=rfl
 have hT:(4611686018427387903#64).toNat=4611686018427387903:=rfl
 have h1:=h.hi
 have h2:=h.lo
 have h3:=h.D
 refine ⟨?_,by rw [BitVec.lt_def]; omega⟩
 unfold checkM
 rw [if_neg (by rw [h.k]; decide),if_neg (by rw [BitVec.lt_def]; omega),if_neg (fun hc=>hc h.N),if_neg (by omega),if_neg,if_neg]
 ·rintro ⟨n,hn,hb⟩
  have h4:=h.n n hn
  have:=lenN_spec n
  rw [BitVec.lt_def] at hb
  omega
 ·rintro ⟨hc,hd⟩
  rw [h.nD hd] at hc
  exact absurd hc (by decide)
theorem good_of {last:BitVec 64} {e:Ev} (h:checkM e=0) (ht:¬ e.t<last):GoodE last e:=by
 have hok:=check_ok h
 rw [BitVec.lt_def] at ht
 refine ⟨hok.k,by omega,hok.t,?_,hok.n,hok.D,fun hd=>?_⟩
 ·unfold checkM at h
  rw [if_neg (by rw [hok.k]; decide)] at h
  by_cases h2:1125899906842624#64<e.t
  ·rw [if_pos h2] at h; cases h
  rw [if_neg h2] at h
  by_cases h3:e.N.length≠(evNames e.k).length
  ·rw [if_pos h3] at h; cases h
  omega
 ·unfold checkM at h
  rw [if_neg (by rw [hok.k]; decide)] at h
  by_cases h2:1125899906842624#64<e.t
  ·rw [if_pos h2] at h; cases h
  rw [if_neg h2] at h
  by_cases h3:e.N.length≠(evNames e.k).length
  ·rw [if_pos h3] at h; cases h
  rw [if_neg h3] at h
  by_cases h4:20<e.D.length
  ·rw [if_pos h4] at h; cases h
  rw [if_neg h4] at h
  by_cases h5:0<e.D.length∧evData e.k=false
  ·rw [if_pos h5] at h; cases h
  exact List.eq_nil_of_length_eq_zero (by
   rcases Nat.eq_zero_or_pos e.D.length with h6|h6
   ·exact h6
   ·exact absurd ⟨h6,hd⟩ h5)
theorem encL_back:∀ (es:List Ev) (last:BitVec 64) (b:Bs) {c:Bs},encL es last b=(c,0)→GoodL last es∧c=b++catE last es
 | [],_,b,c,h=>by
  rw [encL] at h
  simp only [Prod.mk.injEq] at h
  exact ⟨trivial,by rw [catE,List.append_nil]; exact h.1.symm⟩
 | e::r,last,b,c,h=>by
  rw [encL] at h
  by_cases h1:checkM e≠0
  ·rw [if_pos h1] at h
   simp only [Prod.mk.injEq] at h
   exact absurd h.2 h1
  rw [if_neg h1] at h
  by_cases h2:e.t<last
  ·rw [if_pos h2] at h
   simp only [Prod.mk.injEq] at h
   exact absurd h.2 (by decide)
  rw [if_neg h2] at h
  by_cases h3:e.k=19#8∧r≠[]
  ·rw [if_pos h3] at h
   simp only [Prod.mk.injEq] at h
   exact absurd h.2 (by decide)
  rw [if_neg h3] at h
  obtain ⟨g1,g2⟩:=encL_back r e.t _ h
  refine ⟨⟨good_of (by omega) h2,fun hk=>?_,g1⟩,by rw [g2,catE,List.append_assoc]⟩
  exact Decidable.byContradiction fun hr=>h3 ⟨hk,hr⟩
theorem evsR_put:∀ (es:List Ev) (last:BitVec 64) (r:Bs),GoodL last es→evsR es.length last (catE last es++r) 0=(es,r,0)
 | [],_,r,_=>rfl
 | e::es,last,r,⟨h1,h2,h3⟩=>by
  rw [List.length_cons,catE,List.append_assoc]
  have hf:failIf (decide (e.k=19#8) && decide (es.length≠0)) 10 (catE e.t es++r,0)=(catE e.t es++r,0):=by
   have:(decide (e.k=19#8) && decide (es.length≠0))=false:=by
    by_cases hk:e.k=19#8
    ·rw [h2 hk]; simp
    ·rw [decide_eq_false hk]; rfl
   rw [this]; rfl
  rw [evsR_step (take_put_ev h1 _) hf,evsR_put es e.t r h3]
abbrev magicE:Bs:=[66#8,73#8,78#8,49#8]
theorem enc_back {es:List Ev} {b:Bs} (h:encM es=(b,0)):es.length≤2048∧GoodL 0#64 es∧b=magicE++(putL (BitVec.ofNat 64 es.length)++catE 0#64 es):=by
 unfold encM at h
 by_cases h1:2048<es.length
 ·rw [if_pos h1] at h
  simp only [Prod.mk.injEq] at h
  exact absurd h.2 (by decide)
 rw [if_neg h1] at h
 obtain ⟨g1,g2⟩:=encL_back es _ _ h
 refine ⟨by omega,g1,?_⟩
 rw [g2]
 show (magicE++(putL _++[]))++_=_
 rw [List.append_nil,List.append_assoc]
theorem dec_app {es:List Ev} {b:Bs} (h:encM es=(b,0)) (r:Bs):decM (b++r)=finD (es,r,0):=by
 obtain ⟨h1,h2,rfl⟩:=enc_back h
 have hn:(BitVec.ofNat 64 es.length).toNat=es.length:=by rw [BitVec.toNat_ofNat]; omega
 have hb:bytesM (magicE++(putL (BitVec.ofNat 64 es.length)++(catE 0#64 es++r))) 0 4=(magicE,putL (BitVec.ofNat 64 es.length)++(catE 0#64 es++r),0):=by
  unfold bytesM
  rw [if_neg (by decide),if_neg (by rw [List.length_append]; simp only [List.length_cons,List.length_nil]; omega)]
  rfl
 rw [List.append_assoc,List.append_assoc]
 unfold decM
 rw [hb]
 show dec2 (failIf (decide ((0:Int)=0) && decide (U8 magicE≠[66,73,78,49])) 4 (_,0))=_
 rw [show (decide ((0:Int)=0) && decide (U8 magicE≠[66,73,78,49]))=false by decide]
 show dec2 (_,0)=_
 unfold dec2
 dsimp only
 rw [least_put (lenN_of (by omega))]
 dsimp only
 rw [decide_eq_false (by rw [BitVec.lt_def,hn]; have:(2048#64).toNat=2048:=rfl; omega)]
 show dec3 _ (_,0)=_
 unfold dec3
 dsimp only
 rw [hn,evsR_put es _ r h2]
theorem dec_enc {es:List Ev} {b:Bs} (h:encM es=(b,0)):decM b=(es,0):=by
 have:=dec_app h []
 rw [List.append_nil] at this
 rw [this]; rfl
end Ev
end
section
namespace Ev
open Vi Sha
theorem mk62_len (x:BitVec 64):lenN (mk62 x)≠0:=by
 refine lenN_lt ?_
 show (x &&& 4611686018427387903#64).toNat<_
 rw [BitVec.toNat_and]
 have h1:(4611686018427387903#64).toNat=4611686018427387903:=rfl
 have h2:x.toNat &&& (4611686018427387903#64).toNat≤(4611686018427387903#64).toNat:=Nat.and_le_right
 omega
theorem fit_shape (e:Ev) (k:BitVec 8):evOk (fitE e k).k=true∧(fitE e k).N.length=(evNames (fitE e k).k).length∧(∀ n∈(fitE e k).N,lenN n≠0)∧(fitE e k).D.length≤20∧(evData (fitE e k).k=false→(fitE e k).D=[]):=by
 refine ⟨kindE_ok k,?_,?_,?_,?_⟩
 ·show (((padE e.N ((evNames (kindE k)).length-e.N.length)).take (evNames (kindE k)).length).map mk62).length=(evNames (kindE k)).length
  rw [List.length_map,List.length_take,padE_len]
  omega
 ·intro n hn
  obtain ⟨x,_,rfl⟩:=List.mem_map.1 (show n∈((padE e.N ((evNames (kindE k)).length-e.N.length)).take (evNames (kindE k)).length).map mk62 from hn)
  exact mk62_len x
 ·show (if evData (kindE k)=true then e.D.take 20 else []).length≤20
  split
  ·rw [List.length_take]; omega
  ·exact Nat.zero_le _
 ·intro h
  show (if evData (kindE k)=true then e.D.take 20 else [])=[]
  rw [if_neg (by rw [show evData (kindE k)=false from h]; decide)]
theorem fit2_shape (e:Ev) (k:BitVec 8):(fit2E e k).k≠19#8∧evOk (fit2E e k).k=true∧(fit2E e k).N.length=(evNames (fit2E e k).k).length∧(∀ n∈(fit2E e k).N,lenN n≠0)∧(fit2E e k).D.length≤20∧(evData (fit2E e k).k=false→(fit2E e k).D=[]):=by
 unfold fit2E
 split
 ·exact ⟨show kindE 0#8≠19#8 by decide,fit_shape _ _⟩
 ·rename_i h
  exact ⟨h,fit_shape _ _⟩
theorem at_ok {t:BitVec 64} (e:Ev) (h:t.toNat≤1125899906842624):t.toNat≤(atE t e).toNat∧(atE t e).toNat≤1125899906842624:=by
 have hM:(1125899906842624#64).toNat=1125899906842624:=rfl
 have h1:(e.t % 100000#64).toNat<100000:=by
  rw [BitVec.toNat_umod]
  exact Nat.mod_lt _ (by decide)
 have h2:(t+e.t % 100000#64).toNat=t.toNat+(e.t % 100000#64).toNat:=by rw [BitVec.toNat_add]; omega
 unfold atE
 split
 ·rw [hM]; omega
 ·rename_i hc
  rw [BitVec.lt_def,h2] at hc
  rw [h2]
  omega
theorem row_good (ks:Bs):∀ (es:List Ev) (i:Nat) (t:BitVec 64),t.toNat≤1125899906842624→GoodL t (rowE ks es i t)∧∀ e∈rowE ks es i t,e.k≠19#8
 | [],_,_,_=>⟨trivial,fun e he=>by cases he⟩
 | e::r,i,t,ht=>by
  obtain ⟨a1,a2⟩:=at_ok (fit2E e (keyE ks i)) ht
  obtain ⟨s0,s1,s2,s3,s4,s5⟩:=fit2_shape e (keyE ks i)
  obtain ⟨g1,g2⟩:=row_good ks r (i+1) (atE t (fit2E e (keyE ks i))) a2
  rw [rowE]
  refine ⟨⟨⟨s1,a1,a2,s2,s3,s4,s5⟩,fun h=>absurd h s0,g1⟩,fun x hx=>?_⟩
  rcases List.mem_cons.1 hx with rfl|hx
  ·exact s0
  ·exact g2 x hx
end Ev
end
section
namespace Vi
open Sha
end Vi
namespace Sx
open Sha Vi

end Sx
end
section
namespace Ev
open Vi Sha
end Ev
namespace Sx
open Go.RowKit Sha Vi Ev

end Sx
end
section
namespace Sx
open Go.RowKit Sha Vi Ev

set_option maxRecDepth 20000 in
theorem fn_erow0 {W:World} {ms:List Nat} {a:Option Addr} {n c:Nat} (hn:n=0) {aK:Option Addr} {nK cK:Nat} :
  FnR Tryd.prog tds 21 1 [[.past W ms]] [.c (.slc a n c),.c (.slc aK nK cK)] (fun _=>True)
  (fun y hs=>y=.a (.c (.slc none 0 0))∧hs=[[.past W ms]]):=by
 subst hn
 refine fn_of_body tds_ok follows_ Tryd.func21 rfl (t:=.a (.c (.slc a 0 c))::.a (.c (.slc aK nK cK))::anys (Tryd.f21.ntmps-2)) rfl (fun w r0 hr _=>?_)
 obtain ⟨x0,rfl⟩:=List.length_eq_one_iff.1 hr
 (repeat show _∧_;first|refine yr ?_|refine yt ?_|refine yf ?_|refine yo ?_)
 refine .inr ⟨1,?_⟩
 (repeat show _∧_;first|refine yr ?_|refine yt ?_|refine yf ?_|refine yo ?_)
 refine ⟨.a (.c (.slc none 0 0)),[[.past W ms]],⟨[0],⟨rfl,rfl,rfl⟩,?_⟩,rfl,rfl⟩
 (repeat first|exact trivial|refine ent1 ?_)
end Sx
end
section
namespace Sx
open Go.RowKit Sha Vi Ev

end Sx
end
section
namespace Sx
open Go.RowKit Sha Vi Ev

end Sx
end
section
namespace Sx
open Go.RowKit Sha Vi Ev

theorem RowAt.frzF {W0 W:World} {ms0 ms:List Nat} {A:Addr} {F:Nat→Bool} {α:Nat→Addr} {n c:Nat} {cs:List SC} {es:List Ev} (k:RowAt W0 ms0 cs es) (hL:Later W0 ms0 W ms) {f:Nat→SC} (hf:∀ j,j<cs.length→f j=nthC cs j)
  (h:flat [.row (scale c (3+1)) f]≠[]→ImAt W ms A (((flat [.row (scale c (3+1)) f]).map (SC.rz F α)).map SC.raw)) (hn:es.length=n) (hc:n≤c) (hcap:n≤9223372036854775807):EvsAt W ms (some (A.add (0+0))) n c es:=by
 refine ⟨hn,hc,hcap,(fun e=>by cases e),fun B hB j e he=>?_⟩
 injection hB with hB
 subst hB
 obtain ⟨x,h1,h2⟩:=k.elt j e he
 have hj:j<n:=by rw [← hn]; exact (List.getElem?_eq_some_iff.1 he).1
 have hne:flat [.row (scale c (3+1)) f]≠[]:=by
  intro e
  have:=congrArg List.length e
  simp [flat,sc4] at this
  omega
 refine ⟨x,(((h hne).part (0+0) (m:=((flat [.row (scale c (3+1)) f]).map (SC.rz F α)).map SC.raw) (fun j x hx=>by simpa using hx)).part (j*4) fun i y hy=>?_),h2.later hL⟩
 have hi:i<4:=(List.getElem?_eq_some_iff.1 hy).1
 have hcs:=h1 i y hy
 have hlen:=k.len
 have hjn:j*4+i<scale c (3+1):=by rw [sc4]; omega
 rw [List.getElem?_map,List.getElem?_map]
 simp only [flat,List.append_nil,List.getElem?_map,List.getElem?_range hjn,Option.map_some]
 have hraw:=k.raw y (List.mem_of_getElem? hcs)
 rw [hf _ (List.getElem?_eq_some_iff.1 hcs).1,nthC_get? hcs,rz_raw hraw]
end Sx
end
section
namespace Sx
open Go.RowKit Sha Vi Ev

end Sx
end
section
namespace Sx
open Go.RowKit Go.ChangeShapes Go.WideShapes

section
variable {H : Type} {enc : TypeId × Value → H} {P : Program} {w : World} {base : Nat} {sp : Nat → Bool} {held : Bool}
theorem wf_w8 {a:Int} (h:(Lit.int .u8 a).wf=true):a=((BitVec.ofInt 8 a).toNat:Int):=by
 have:=bounds_u8 h
 rw [BitVec.toNat_ofInt]
 omega
end
theorem isAs_nil (r:Rho):IsAs r [] []:=⟨rfl,fun j x e=>by simp at e⟩
theorem isAs_cons {r:Rho} {x:SA} {v:Value} {l:List SA} {vs:List Value} (h:SA.Is r x v) (hs:IsAs r l vs):IsAs r (x::l) (v::vs) :=
 ⟨by simpa using hs.1,fun j y e=>by
  cases j with
  | zero=>simp at e; subst e; exact ⟨v,rfl,h⟩
  | succ j=>exact hs.2 j y e⟩
end Sx
end
section
namespace Sx
open Go.ChangeShapes

theorem wf_w64 {a:Int} (h:(Lit.int .u64 a).wf=true):a=((BitVec.ofInt 64 a).toNat:Int):=by
 have:=bounds_u64 h
 rw [BitVec.toNat_ofInt]
 omega
end Sx
end
section
namespace Sx
open Go.RowKit Go.ChangeShapes Go.WideShapes Sha

theorem okWide_spot {P:Program} {w:World} {r:Reach} {b0:Nat} {t e:TypeId} {a:Option Addr} {n c:Nat} (ht:P.underlying t=some (.slice e)) (h:Value.okWide P w r b0 t (.slice a n c)):∀ x,a=some x→x.spot=none:=by
 rintro x rfl
 simp only [Value.okWide,ht,Cell.okWide,Cell.ok] at h
 exact h.2.2.2.1
structure InB (w:World) (a:Option Addr) (n c:Nat) (z:Bool) (l:Bs) (B f:Nat):Prop where
 len:l.length=n
 le:n≤c
 cap:c≤maxLen
 nil:z=true→l=[]
 val:∀ (r:Rho) (i:Nat),r[i]?=some (B,f)→SC.Is r (.sn z i 0 0 n c) (.slice a n c)
 at_:∀ r:Rho,At false r w B f (flat (bts z n 0 n (L l)))
theorem open_b8 {w:World} {a:Option Addr} {len cap:Nat} {zs:List Int} (h:IsRow .u8 w a len cap zs) (hs:∀ x,a=some x→x.spot=none):∃ z l B f,InB w a len cap z l B f:=by
 rcases h with ⟨rfl,rfl,rfl,rfl⟩|⟨x,rfl,hl,hm,hz,hc,hw⟩
 ·exact ⟨true,[],0,0,rfl,Nat.le_refl _,by unfold maxLen; omega,fun _=>rfl,fun r i _=>.inl ⟨rfl,rfl,rfl,rfl⟩,fun r j y e=>by simp [bts,flat] at e⟩
 ·obtain ⟨B,f,spot⟩:=x
  obtain rfl:spot=none:=hs _ rfl
  refine ⟨false,(zs.take len).map (BitVec.ofInt 8),B,f,by simp; omega,hl,hm,fun h=>Bool.noConfusion h,fun r i hr=>.inr (.inl ⟨rfl,B,f,hr,rfl⟩),fun r j y e=>?_⟩
  have hj:j<len:=by
   rcases Nat.lt_or_ge j len with h|h
   ·exact h
   ·rw [List.getElem?_eq_none (by simpa [bts,flat] using h)] at e; cases e
  have e2:y=.w8 (L ((zs.take len).map (BitVec.ofInt 8)) j):=by
   simp only [bts,flat,List.append_nil,List.getElem?_map,Option.map_eq_some_iff] at e
   obtain ⟨i,hi,rfl⟩:=e
   rw [List.getElem?_range (by omega)] at hi
   injection hi with hi
   subst hi
   have:=winF_at 0 len (L ((zs.take len).map (BitVec.ofInt 8))) hj
   rwa [Nat.zero_add] at this
  subst e2
  have hc1:=hc j (by omega)
  have ha:(⟨B,f,none⟩:Addr).add j=⟨B,f+j,none⟩:=by unfold Addr.add; simp
  rw [ha] at hc1
  refine ⟨_,hc1,?_,fun h=>Bool.noConfusion h⟩
  show Value.int .u8 _=Value.int .u8 _
  congr 1
  have hjz:j<zs.length:=by omega
  have h3:zs.getD j 0=zs[j]:=by rw [List.getD_eq_getElem?_getD,List.getElem?_eq_getElem hjz]; rfl
  have h4:L ((zs.take len).map (BitVec.ofInt 8)) j=BitVec.ofInt 8 zs[j]:=by
   rw [L_lt (by simp; omega)]
   simp
  rw [h3,h4]
  exact wf_w8 (hw _ (List.getElem_mem _))
def AllAt (R:Rho) (w:World):List (List Seg)→Rho→Prop
 | [],[]=>True
 | ch::h,(B,f)::r=>At false R w B f (flat ch)∧AllAt R w h r
 | _,_=>False
theorem AllAt.len {R:Rho} {w:World}:∀ {h:List (List Seg)} {r:Rho},AllAt R w h r→r.length=h.length
 | [],[],_=>rfl
 | _::h,_::r,k=>by rw [List.length_cons,List.length_cons,AllAt.len k.2]
 | [],_::_,k=>k.elim
 | _::_,[],k=>k.elim
theorem AllAt.get {R:Rho} {w:World}:∀ {h:List (List Seg)} {r:Rho},AllAt R w h r→∀ (i:Nat) (ch:List Seg) (B f:Nat),h[i]?=some ch→r[i]?=some (B,f)→At false R w B f (flat ch)
 | [],[],_,i,_,_,_,e,_=>by simp at e
 | c::h,(B',f')::r,k,0,_,_,_,e1,e2=>by
  simp at e1 e2
  obtain ⟨rfl,rfl⟩:=e2
  subst e1
  exact k.1
 | c::h,(B',f')::r,k,i+1,_,_,_,e1,e2=>k.2.get i _ _ _ (by simpa using e1) (by simpa using e2)
theorem heapOk_ro {P:Program} {T:List (Nat × TD)} {w:World} {r0:Rho} {h0:List (List Seg)} (hat:AllAt r0 w h0 r0) (hp:∀ (i:Nat) (W:World) (ms:List Nat),h0[i]?=some [.past W ms]→W=w):HeapOk (cx0 P T w r0 h0.length h0) h0 r0 w:=by
 have hlen:=hat.len
 have hget:∀ i,h0[i]?=some (getH h0 i)∨h0[i]?=none:=fun i=>by
  rcases Nat.lt_or_ge i h0.length with h|h
  ·exact .inl (by rw [List.getElem?_eq_getElem h]; have:=getH_eq h0 i; rw [List.getElem?_eq_getElem h] at this; simpa using this.symm)
  ·exact .inr (List.getElem?_eq_none h)
 have out:∀ (i:Nat) (x:Nat × Nat),h0.length≤i→r0[i]?=some x→False:=fun i x hi e=>by
  rw [List.getElem?_eq_none (by omega)] at e; cases e
 refine ⟨Ext.refl _ _,RLe.refl _,Nat.le_of_eq hlen.symm,hlen,fun i ch B f hi hr=>?_,fun i B f ho hr=>(out i _ ho hr).elim,fun i B f ho hr=>(out i _ ho hr).elim,fun i B f ho hl hr=>?_,fun i ch ho hl hi=>?_,fun i j B f f' ch ch' hij o1 o2 h1 h2 r1 r2=>(out i _ o1 r1).elim,fun i m B f ho _ hr=>(out i _ ho hr).elim,fun i W ms hi=>?_⟩
 ·have hil:i<h0.length:=(List.getElem?_eq_some_iff.1 hi).1
  have:Nat.ble h0.length i=false:=by
   cases e:Nat.ble h0.length i
   ·rfl
   ·have:=ble_le e; omega
  show At (Nat.ble h0.length i) _ _ _ _ _
  rw [this]
  exact hat.get i ch B f hi hr
 ·refine ⟨?_,?_⟩
  ·show B ∉ (r0.drop h0.length).map (·.1)
   rw [List.drop_eq_nil_of_le (by omega)]
   simp
  ·rcases hget i with e|e
   ·exact (hat.get i _ B f e hr).lt hl
   ·rw [List.getElem?_eq_none_iff] at e
    exact (out i _ e hr).elim
 ·have hl:¬ flat (getH h0 i)≠[]:=hl
  rcases hget i with e|e
  ·rw [hi] at e
   injection e with e
   rw [e]
   exact Classical.not_not.1 hl
  ·rw [hi] at e; cases e
 ·obtain rfl:=hp i W ms hi
  exact ⟨Ext.refl _ _,fun B _ h2 h3=>⟨i,_,ms,hi,h2,h3⟩,fun j B f ho hr=>(out j _ ho hr).elim⟩
end Sx
end
section
namespace Sx
open Go.RowKit Go.ChangeShapes Go.WideShapes Sha Vi

theorem isL_nil (r:Rho):IsL r [] []:=⟨rfl,fun j x e=>by simp at e⟩
theorem isL_cons {r:Rho} {x:SC} {v:Value} {l:List SC} {vs:List Value} (h:x.Is r v) (hs:IsL r l vs):IsL r (x::l) (v::vs) :=
 ⟨by simpa using hs.1,fun j y e=>by
  cases j with
  | zero=>simp at e; subst e; exact ⟨v,rfl,h⟩
  | succ j=>exact hs.2 j y e⟩
end Sx
end
section
namespace Sx
open Go.RowKit Go.ChangeShapes Go.WideShapes Sha Vi Ev

theorem FnR.lawP {P:Program} {T:List (Nat × TD)} {f:FuncId} {args:List SA} {w:World} {vs:List Value} (h:FnR P T f 1 [[.past w []]] args (fun _=>True) (fun x _=>x=.a (.c (.bool true))))
  (ha:IsAs [(0,0)] args vs):Calls P f vs.toArray w fun e w'=>e=.returned (.bool true)∧Below w.heap.size w w':=by
 have hat:AllAt [(0,0)] w [[.past w []]] [(0,0)]:=⟨fun j x e=>by simp [flat] at e,trivial⟩
 refine (h w [(0,0)] vs (heapOk_ro hat (fun i W ms e=>?_)) ha trivial).mono ?_
 ·cases i with
  | zero=>simp at e; exact e.1.symm
  | succ i=>simp at e
 ·rintro e w' ⟨v,x,hs,r',rfl,hx,hok,rfl⟩
  obtain rfl:v=.bool true:=hx
  refine ⟨rfl,?_⟩
  have e:Ext (([((0:Nat),(0:Nat))].drop 1).map (·.1)) w w':=hok.ext
  exact e.below0
theorem cell_block {w:World} {a:Addr} {v:Value} (h:w.cell? a=some v):a.block<w.heap.size:=by
 unfold World.cell? at h
 rcases Nat.lt_or_ge a.block w.heap.size with hb|hb
 ·exact hb
 ·rw [Array.getElem?_eq_none hb] at h; cases h
theorem row_bs {w:World} {a:Option Addr} {n c:Nat} {zs:List Int} (h:IsRow .u8 w a n c zs) (hs:∀ x,a=some x→x.spot=none):∃ l:Bs,BsAt w [] a n c l:=by
 obtain ⟨z,l,B,f,hI⟩:=open_b8 h hs
 rcases h with ⟨rfl,rfl,rfl,rfl⟩|⟨x,rfl,hl,hm,hz,hc,hw⟩
 ·exact ⟨[],SlAt.nul⟩
 ·obtain ⟨B,f,spot⟩:=x
  obtain rfl:spot=none:=hs _ rfl
  have hcap:=hI.cap
  refine ⟨(zs.take n).map (BitVec.ofInt 8),by simp; omega,hl,by unfold maxLen at hcap; omega,(fun e=>by cases e),fun x e h0=>?_⟩
  injection e with e
  subst e
  refine ⟨rfl,?_,List.not_mem_nil,fun j y e=>?_⟩
  ·have:=cell_block (hc 0 (by omega))
   simpa [Addr.add] using this
  ·have hj:j<n:=by
    have:=(List.getElem?_eq_some_iff.1 e).1
    simp at this; omega
   have hjz:j<zs.length:=by omega
   have ha:(⟨B,f,none⟩:Addr).add j=⟨B,f+j,none⟩:=by unfold Addr.add; simp
   have hc1:=hc j (by omega)
   rw [ha] at hc1
   refine ⟨_,hc1,?_⟩
   rw [List.getElem?_map,List.getElem?_map,List.getElem?_take,if_pos hj,List.getElem?_eq_getElem hjz] at e
   simp only [Option.map_some,Option.some.injEq] at e
   subst e
   show Value.int .u8 _=Value.int .u8 _
   congr 1
   have h3:zs.getD j 0=zs[j]:=by rw [List.getD_eq_getElem?_getD,List.getElem?_eq_getElem hjz]; rfl
   rw [h3]
   exact wf_w8 (hw _ (List.getElem_mem _))
theorem row_ns {w:World} {a:Option Addr} {n c:Nat} {zs:List Int} (h:IsRow .u64 w a n c zs) (hs:∀ x,a=some x→x.spot=none):∃ l:List (BitVec 64),NsAt w [] a n c l:=by
 rcases h with ⟨rfl,rfl,rfl,rfl⟩|⟨x,rfl,hl,hm,hz,hc,hw⟩
 ·exact ⟨[],SlAt.nul⟩
 ·obtain ⟨B,f,spot⟩:=x
  obtain rfl:spot=none:=hs _ rfl
  have hcap:c≤maxLen:=hm
  refine ⟨(zs.take n).map (BitVec.ofInt 64),by simp; omega,hl,by unfold maxLen at hcap; omega,(fun e=>by cases e),fun x e h0=>?_⟩
  injection e with e
  subst e
  refine ⟨rfl,?_,List.not_mem_nil,fun j y e=>?_⟩
  ·have:=cell_block (hc 0 (by omega))
   simpa [Addr.add] using this
  ·have hj:j<n:=by
    have:=(List.getElem?_eq_some_iff.1 e).1
    simp at this; omega
   have hjz:j<zs.length:=by omega
   have ha:(⟨B,f,none⟩:Addr).add j=⟨B,f+j,none⟩:=by unfold Addr.add; simp
   have hc1:=hc j (by omega)
   rw [ha] at hc1
   refine ⟨_,hc1,?_⟩
   rw [List.getElem?_map,List.getElem?_map,List.getElem?_take,if_pos hj,List.getElem?_eq_getElem hjz] at e
   simp only [Option.map_some,Option.some.injEq] at e
   subst e
   show Value.int .u64 _=Value.int .u64 _
   congr 1
   have h3:zs.getD j 0=zs[j]:=by rw [List.getD_eq_getElem?_getD,List.getElem?_eq_getElem hjz]; rfl
   rw [h3]
   exact wf_w64 (hw _ (List.getElem_mem _))
section
variable {H : Type} {enc : TypeId × Value → H} {P : Program} {w : World} {base : Nat} {held : Bool}
theorem raw_b8 {t e:TypeId} {fuel:Nat} {cs:List Value} {y:DataW H × List MemPlace} (ht:P.underlying t=some (.slice e)) (he:P.underlying e=some (.int .u8)) (hc:P.cellsOf e=1)
  (h:DataW.trod enc P w base (fun _=>true) held fuel t cs=some y):∃ (a:Option Addr) (n c:Nat) (l:Bs),cs=[.slice a n c]∧BsAt w [] a n c l:=by
 rcases open_ints ht he hc h with ⟨rfl,_⟩|⟨x,n,c,zs,rfl,_,hl,hm,hz,_,hcell,hwz⟩
 ·exact ⟨none,0,0,[],rfl,SlAt.nul⟩
 ·have hz:zs.length=c:=by simpa using hz
  rcases Nat.eq_zero_or_pos c with hc0|hc0
  ·subst hc0
   obtain rfl:n=0:=by omega
   exact ⟨_,0,0,[],rfl,by simp,Nat.le_refl _,by decide,fun _=>rfl,fun x e h0=>absurd rfl h0⟩
  ·obtain ⟨l,hl⟩:=row_bs (w:=w) (n:=n) (c:=c) (zs:=zs) (.inr ⟨x,rfl,hl,hm,hz,fun i hi=>hcell i hi,hwz⟩) (fun y e=>by
    cases e
    have:=World.cell?_spot (hcell 0 (by omega))
    simpa [Addr.add] using this)
   exact ⟨_,n,c,l,rfl,hl⟩
theorem raw_n64 {t e:TypeId} {fuel:Nat} {cs:List Value} {y:DataW H × List MemPlace} (ht:P.underlying t=some (.slice e)) (he:P.underlying e=some (.int .u64)) (hc:P.cellsOf e=1)
  (h:DataW.trod enc P w base (fun _=>true) held fuel t cs=some y):∃ (a:Option Addr) (n c:Nat) (l:List (BitVec 64)),cs=[.slice a n c]∧NsAt w [] a n c l:=by
 rcases open_ints ht he hc h with ⟨rfl,_⟩|⟨x,n,c,zs,rfl,_,hl,hm,hz,_,hcell,hwz⟩
 ·exact ⟨none,0,0,[],rfl,SlAt.nul⟩
 ·have hz:zs.length=c:=by simpa using hz
  rcases Nat.eq_zero_or_pos c with hc0|hc0
  ·subst hc0
   obtain rfl:n=0:=by omega
   exact ⟨_,0,0,[],rfl,by simp,Nat.le_refl _,by decide,fun _=>rfl,fun x e h0=>absurd rfl h0⟩
  ·obtain ⟨l,hl⟩:=row_ns (w:=w) (n:=n) (c:=c) (zs:=zs) (.inr ⟨x,rfl,hl,hm,hz,fun i hi=>hcell i hi,hwz⟩) (fun y e=>by
    cases e
    have:=World.cell?_spot (hcell 0 (by omega))
    simpa [Addr.add] using this)
   exact ⟨_,n,c,l,rfl,hl⟩
end
section
theorem isL_head {r:Rho} {x:SC} {v:Value} (h:IsL r [x] [v]):x.Is r v:=by
 obtain ⟨u,e,hu⟩:=h.2 0 x rfl
 injection e with e
 rw [e]; exact hu
variable {H : Type} {enc : TypeId × Value → H} {w : World} {base : Nat} {held : Bool}
theorem one_k8 {P:Program} {t:TypeId} {fuel:Nat} {cs:List Value} {y:DataW H × List MemPlace} (ht:P.underlying t=some (.int .u8)) (h:DataW.trod enc P w base (fun _=>true) held fuel t cs=some y):∃ b:BitVec 8,∀ r:Rho,IsL r [.w8 b] cs:=by
 obtain ⟨x,rfl,_,wx⟩:=DataW.trod_int ht h
 exact ⟨BitVec.ofInt 8 x,fun r=>isL_cons (congrArg _ (wf_w8 wx)) (isL_nil r)⟩
theorem one_t64 {P:Program} {t:TypeId} {fuel:Nat} {cs:List Value} {y:DataW H × List MemPlace} (ht:P.underlying t=some (.int .u64)) (h:DataW.trod enc P w base (fun _=>true) held fuel t cs=some y):∃ b:BitVec 64,∀ r:Rho,IsL r [.w64 b] cs:=by
 obtain ⟨x,rfl,_,wx⟩:=DataW.trod_int ht h
 exact ⟨BitVec.ofInt 64 x,fun r=>isL_cons (congrArg _ (wf_w64 wx)) (isL_nil r)⟩
set_option maxRecDepth 100000 in
theorem open_ev {fuel:Nat} {cs:List Value} {y:DataW H × List MemPlace} (hl:cs.length=4) (hf:DataW.trod enc Tryd.prog w base (fun _=>true) held fuel 27 cs=some y) :
  ∃ (e:Ev) (x:EvC),EvAt w [] x e∧∀ r:Rho,IsL r (flat (evS e x)) cs:=by
 obtain ⟨xs,n,_,_,_,hxl,hg⟩:=DataW.trod_struct Tryd.underlying27 hf
 match cs,hl with
 | [c0,c1,c2,c3],_ =>
  match xs,hxl with
  | [y0,y1,y2,y3],_ =>
   obtain ⟨k,h0⟩:=one_k8 (P:=Tryd.prog) (cs:=[c0]) (y:=y0) Tryd.underlying22 (hg 0 _ rfl)
   obtain ⟨t,h1⟩:=one_t64 (P:=Tryd.prog) (cs:=[c1]) (y:=y1) Tryd.underlying23 (hg 1 _ rfl)
   obtain ⟨aN,nN,cN,N,e2,hN⟩:=raw_n64 (P:=Tryd.prog) (cs:=[c2]) (y:=y2) Tryd.underlying24 Tryd.underlying23 (by kernel_rfl) (hg 2 _ rfl)
   obtain ⟨aD,nD,cD,D,e3,hD⟩:=raw_b8 (P:=Tryd.prog) (cs:=[c3]) (y:=y3) Tryd.underlying25 Tryd.underlying5 (by kernel_rfl) (hg 3 _ rfl)
   injection e2 with e2; injection e3 with e3
   subst e2; subst e3
   exact ⟨⟨k,t,N,D⟩,⟨aN,nN,cN,aD,nD,cD⟩,⟨hN,hD⟩,fun r=>isL_cons (isL_head (h0 r)) (isL_cons (isL_head (h1 r)) (isL_cons rfl (isL_cons rfl (isL_nil r))))⟩
set_option maxRecDepth 100000 in
theorem open_evs {rc:Reach} {b0:Nat} {v:Value} {d:DataW H} {p:List MemPlace} (hval:Value.okWide Tryd.prog w rc b0 30 v) (h:DataW.Trod enc Tryd.prog w base (fun _=>true) held 30 v d p) :
  ∃ (a:Option Addr) (n c:Nat) (es:List Ev),v=.slice a n c∧EvsAt w [] a n c es:=by
 obtain ⟨a0,n0,c0,rfl⟩:=okWide_slice Tryd.underlying30 hval
 have hspot:=okWide_spot Tryd.underlying30 hval
 obtain ⟨fuel,hf⟩:=h
 rcases DataW.trod_slice Tryd.underlying30 hf with ⟨hcs,_⟩|⟨a,len,cap,elems,rest,m,_,hcs,_,hb,hl,hm,hlen,hel,_,_⟩
 ·simp [Value.cells] at hcs
  obtain ⟨rfl,rfl,rfl⟩:=hcs
  exact ⟨none,0,0,[],rfl,EvsAt.nul⟩
 simp [Value.cells] at hcs
 obtain ⟨rfl,rfl,rfl⟩:=hcs
 have hsz:Tryd.prog.cellsOf 27=4:=by kernel_rfl
 rw [hsz] at hel
 obtain ⟨B,f,sp⟩:=a
 obtain rfl:sp=none:=hspot _ rfl
 have each:∀ k,∃ y:Ev,k<n0→∃ x,ImAt w [] ((⟨B,f,none⟩:Addr).add (k*4)) (flat (evS y x))∧EvAt w [] x y:=by
  intro k
  by_cases hk:k<n0
  ·have h1:=hel k hk
   rw [List.getElem?_eq_getElem (by omega),Option.bind_eq_some_iff] at h1
   obtain ⟨cs,hcs,ht⟩:=h1
   obtain ⟨hb',hlen',hget⟩:=World.cells?_some hcs
   obtain ⟨e,x,hx,hi⟩:=open_ev hlen' ht
   refine ⟨e,fun _=>⟨x,⟨?_,?_,List.not_mem_nil,fun j y he=>?_⟩,hx⟩⟩
   ·simp only [Addr.add]; split <;> rfl
   ·have h0:=hget 0 (by omega)
    rw [List.getElem?_eq_getElem (by omega)] at h0
    exact cell_block h0
   ·obtain ⟨v,e1,e2⟩:=(hi []).2 j y he
    have hj:j<4:=(List.getElem?_eq_some_iff.1 he).1
    refine ⟨v,?_,e2⟩
    have h0:=hget j hj
    rw [e1] at h0
    rw [← h0]
    congr 1
    simp only [Addr.add]
    split <;> split <;> simp <;> omega
  ·exact ⟨⟨0#8,0#64,[],[]⟩,fun h=>absurd h hk⟩
 obtain ⟨g,hg⟩:=Classical.axiomOfChoice each
 refine ⟨some ⟨B,f,none⟩,n0,c0,(List.range n0).map g,rfl,by simp,hl,by (have:c0≤maxLen:=hm; unfold maxLen at this; omega),(fun e=>by cases e),fun A hA k e he=>?_⟩
 cases hA
 have hk:k<n0:=by have:=(List.getElem?_eq_some_iff.1 he).1; simpa using this
 rw [List.getElem?_map,List.getElem?_range hk] at he
 injection he with he
 subst he
 exact hg k hk
end
end Sx
end
section
namespace Sx
open Go.RowKit Go.ChangeShapes Go.WideShapes Sha Vi Ev

theorem FnR.frzW {P:Program} {T:List (Nat × TD)} {f:FuncId} {n:Nat} {h0:List (List Seg)} {args:List SA} {raw:World→Prop} {Res Res':SV→List (List Seg)→Prop} (h:FnR P T f n h0 args raw Res)
  (k:∀ (w:World) (r0:Rho) x hs,r0.length=h0.length→Res x hs→FinW (cx0 P T w r0 n h0) x hs Res'):FnR P T f n h0 args raw Res' :=
 fun w r0 vs ok ha hr=>(h w r0 vs ok ha hr).mono fun _ _ ⟨v,x,hs,r',e,h1,h2,h3⟩=>by
  obtain ⟨x',hs',r'',a,b,c⟩:=k w r0 x hs ok.len h3 r' _ v h2 h1
  exact ⟨v,x',hs',r'',e,a,b,c⟩
set_option maxRecDepth 20000 in
theorem fn_erowF {W:World} {ms:List Nat} {a:Option Addr} {n c:Nat} {es:List Ev} (h:EvsAt W ms a n c es) {aK:Option Addr} {nK cK:Nat} {ks:Bs} (hK:BsAt W ms aK nK cK ks) (hl:∀ e∈es,e.N.length≤30∧e.D.length≤100) (hn60:n≤60) :
  FnR Tryd.prog tds 21 1 [[.past W ms]] [.c (.slc a n c),.c (.slc aK nK cK)] (fun _=>True)
  (fun y hs=>∃ a' c' W' ms',Later W ms W' ms'∧EvsAt W' ms' a' n c' (rowE ks es 0 0#64)∧y=.a (.c (.slc a' n c'))∧hs=[[.past W' ms']]):=by
 rcases Nat.eq_zero_or_pos n with hn|hn
 ·obtain rfl:es=[]:=List.length_eq_zero_iff.1 (by rw [h.len,hn])
  subst hn
  refine (fn_erow0 (W:=W) (ms:=ms) (a:=a) (c:=c) rfl (aK:=aK) (nK:=nK) (cK:=cK)).mono (fun y hs ⟨h1,h2⟩=>⟨none,0,W,ms,Later.refl _ _,EvsAt.nul,h1,h2⟩)
 ·refine (fn_erow h hK hl hn60 hn).frzW (fun w r0 y hs hr0 ⟨W1,ms1,cs,c',hL,hrow,hc,h1,h2⟩=>?_)
  obtain ⟨x0,rfl⟩:=List.length_eq_one_iff.1 hr0
  subst h1; subst h2
  refine finW_frz [0] rfl (Nat.zero_lt_one) cx0_m rfl (fun W9 ms9 α hL9 hI=>?_)
  have hrl:(rowE ks es 0 0#64).length=n:=by rw [rowE_len,h.len]
  refine ⟨.a (.c (.slc (some ((α 1).add (0+0))) n c')),[],⟨⟨rfl,rfl,rfl⟩,?_⟩,some ((α 1).add (0+0)),c',W9,ms9,hL.trans hL9,hrow.frz (F:=fun j=>!memB j [0]) hL9 (hI 1 rfl) hrl hc (by omega),rfl,rfl⟩
  (repeat first|exact trivial|refine ent1 ?_)
end Sx
end
section
namespace Sx
open Go.RowKit
variable {C : Cx}

end Sx
end
section
namespace Sx
open Go.RowKit Sha Vi Ev

theorem evS_raw (e:Ev) (x:EvC):∀ i,((flat (evS e x)).getD i .any).raw=(flat (evS e x)).getD i .any
 | 0=>rfl
 | 1=>rfl
 | 2=>rfl
 | 3=>rfl
 | _+4=>rfl
theorem EvsAt.row {W:World} {ms:List Nat} {A:Addr} {n c:Nat} {es:List Ev} (h:EvsAt W ms (some A) n c es) (hn:0<n):∃ cs,RowAt W ms cs es∧ImAt W ms A cs:=by
 have each:∀ k,∃ x:EvC,∀ e,es[k]?=some e→ImAt W ms (A.add (k*4)) (flat (evS e x))∧EvAt W ms x e:=by
  intro k
  by_cases hk:k<es.length
  ·obtain ⟨x,h1,h2⟩:=h.elt A rfl k _ (List.getElem?_eq_getElem hk)
   exact ⟨x,fun e he=>by rw [List.getElem?_eq_getElem hk] at he; injection he with he; subst he; exact ⟨h1,h2⟩⟩
  ·exact ⟨⟨none,0,0,none,0,0⟩,fun e he=>by rw [List.getElem?_eq_none (by omega)] at he; cases he⟩
 obtain ⟨g,hg⟩:=Classical.axiomOfChoice each
 have hlen:=h.len
 let F:Nat→SC:=fun j=>(flat (evS (es.getD (j / 4) ⟨0#8,0#64,[],[]⟩) (g (j / 4)))).getD (j % 4) .any
 have hF:∀ k e,es[k]?=some e→∀ i y,(flat (evS e (g k)))[i]?=some y→F (k*4+i)=y∧i<4:=by
  intro k e he i y hy
  have hi:i<4:=(List.getElem?_eq_some_iff.1 hy).1
  refine ⟨?_,hi⟩
  show (flat (evS (es.getD ((k*4+i) / 4) _) (g ((k*4+i) / 4)))).getD ((k*4+i) % 4) .any=y
  rw [show (k*4+i) / 4=k by omega,show (k*4+i) % 4=i by omega,List.getD_eq_getElem?_getD,List.getD_eq_getElem?_getD,he]
  show ((flat (evS e (g k)))[i]?).getD .any=y
  rw [hy]; rfl
 refine ⟨(List.range (es.length*4)).map F,⟨by simp,fun x hx=>?_,fun k e he=>⟨g k,fun i y hy=>?_,(hg k e he).2⟩⟩,?_⟩
 ·obtain ⟨j,_,rfl⟩:=List.mem_map.1 hx
  exact evS_raw _ _ _
 ·obtain ⟨h1,h2⟩:=hF k e he i y hy
  have hk:k<es.length:=(List.getElem?_eq_some_iff.1 he).1
  rw [List.getElem?_map,List.getElem?_range (by omega),Option.map_some,h1]
 ·have hz:=(hg 0 _ (List.getElem?_eq_getElem (by omega:0<es.length))).1
  have hA:A.spot=none:=by
   have:=hz.1
   obtain ⟨B,f,s⟩:=A
   unfold Addr.add at this
   cases s with
   | none=>rfl
   | some s=>exact this
  obtain ⟨B,f,s⟩:=A
  simp only at hA
  subst hA
  rw [add_none] at hz
  refine ⟨rfl,hz.2.1,hz.2.2.1,fun j x hx=>?_⟩
  have hj:j<es.length*4:=by have:=(List.getElem?_eq_some_iff.1 hx).1; simpa using this
  rw [List.getElem?_map,List.getElem?_range hj,Option.map_some] at hx
  injection hx with hx
  have hk:j / 4<es.length:=by omega
  have he:=List.getElem?_eq_getElem hk
  have hlt:j % 4<4:=by omega
  have hy:(flat (evS es[j / 4] (g (j / 4))))[j % 4]?=some ((flat (evS es[j / 4] (g (j / 4))))[j % 4]'(by show j % 4<4; exact hlt)):=List.getElem?_eq_getElem _
  obtain ⟨h1,h2⟩:=hF _ _ he _ _ hy
  obtain ⟨h3,_⟩:=hg _ _ he
  rw [add_none] at h3
  obtain ⟨v,e1,e2⟩:=h3.2.2.2 _ _ hy
  refine ⟨v,?_,?_⟩
  ·rw [← e1]; congr 2; show f+j=f+j / 4*4+j % 4; omega
  ·rw [← hx,show j=j / 4*4+j % 4 by omega,h1]; exact e2
theorem RowAt.append {W:World} {ms:List Nat} {cs ds:List SC} {es fs:List Ev} (h:RowAt W ms cs es) (k:RowAt W ms ds fs):RowAt W ms (cs++ds) (es++fs):=by
 have hl:=h.len
 refine ⟨by rw [List.length_append,hl,k.len,List.length_append]; omega,fun y hy=>?_,fun j e he=>?_⟩
 ·rcases List.mem_append.1 hy with hy|hy
  ·exact h.raw y hy
  ·exact k.raw y hy
 ·rcases Nat.lt_or_ge j es.length with hj|hj
  ·rw [List.getElem?_append_left hj] at he
   obtain ⟨z,h1,h2⟩:=h.elt j e he
   refine ⟨z,fun i y hy=>?_,h2⟩
   have hi:i<4:=(List.getElem?_eq_some_iff.1 hy).1
   rw [List.getElem?_append_left (by omega)]
   exact h1 i y hy
  ·rw [List.getElem?_append_right hj] at he
   obtain ⟨z,h1,h2⟩:=k.elt _ e he
   refine ⟨z,fun i y hy=>?_,h2⟩
   rw [List.getElem?_append_right (by omega),show j*4+i-cs.length=(j-es.length)*4+i by omega]
   exact h1 i y hy
theorem RowAt.take {W:World} {ms:List Nat} {cs:List SC} {es:List Ev} (h:RowAt W ms cs es) (k:Nat) (hk:k≤es.length):RowAt W ms (cs.take (k*4)) (es.take k):=by
 have hl:=h.len
 refine ⟨by rw [List.length_take,List.length_take]; omega,fun y hy=>h.raw y (List.mem_of_mem_take hy),fun j e he=>?_⟩
 have hj:j<k:=by have:=(List.getElem?_eq_some_iff.1 he).1; rw [List.length_take] at this; omega
 rw [List.getElem?_take,if_pos hj] at he
 obtain ⟨z,h1,h2⟩:=h.elt j e he
 refine ⟨z,fun i y hy=>?_,h2⟩
 have hi:i<4:=(List.getElem?_eq_some_iff.1 hy).1
 rw [List.getElem?_take,if_pos (by omega)]
 exact h1 i y hy
theorem RowAt.drop {W:World} {ms:List Nat} {cs:List SC} {es:List Ev} (h:RowAt W ms cs es) (k:Nat) (hk:k≤es.length):RowAt W ms (cs.drop (k*4)) (es.drop k):=by
 have hl:=h.len
 refine ⟨by rw [List.length_drop,List.length_drop]; omega,fun y hy=>h.raw y (List.mem_of_mem_drop hy),fun j e he=>?_⟩
 rw [List.getElem?_drop] at he
 obtain ⟨z,h1,h2⟩:=h.elt _ e he
 refine ⟨z,fun i y hy=>?_,h2⟩
 rw [List.getElem?_drop,show k*4+(j*4+i)=(k+j)*4+i by omega]
 exact h1 i y hy
end Sx
end
section
namespace Sx
open Go.RowKit Sha Vi Ev

theorem raw_sub {C:Cx} {h:List (List Seg)} {i:Nat} {W:World} {ms:List Nat} (hp:h[i]?=some [.past W ms]) {A:Addr} {cs:List SC} (him:ImAt W ms A cs) (o m:Nat) (hm:o+m≤cs.length):RawAt C h (A.add o) ((List.range m).map (nthC (cs.drop o))) :=
 RawAt.past hp (him.part o fun j x hx=>by
  have hj:j<m:=by have:=(List.getElem?_eq_some_iff.1 hx).1; simpa using this
  rw [List.getElem?_map,List.getElem?_range hj,Option.map_some] at hx
  injection hx with hx
  subst hx
  rw [← nthC_get (show j<(cs.drop o).length by rw [List.length_drop]; omega),List.getElem?_drop])
theorem app_csm {cs new:List SC} {n m:Nat} {f g:Nat→SC} (hn:cs.length=n*4) (hf:∀ j,j<cs.length→f j=nthC cs j) (hw:new.length=m*4) (hg:∀ j,j<m*4→g j=nthC new j) (j:Nat) (hj:j<(cs++new).length):appF f 0 (scale n (3+1)) (scale m (3+1)) g j=nthC (cs++new) j:=by
 rw [List.length_append] at hj
 unfold appF
 rw [sc4,sc4]
 by_cases h:j<n*4
 ·rw [if_pos h,Nat.add_zero,hf j (by omega),nthC_app_l (by omega)]
 ·rw [if_neg h,if_pos (by omega),hg _ (by omega),nthC_app_r (by omega),hn]
theorem nthC_take {cs:List SC} {m j:Nat} (h:j<m) (hm:m≤cs.length):nthC (cs.take m) j=nthC cs j :=
 nthC_get? (by rw [List.getElem?_take,if_pos h,nthC_get (by omega)])
end Sx
end
section
namespace Sx
open Go.RowKit Sha Vi Ev

end Sx
end
section
namespace Ev
open Vi Sha

def lastT:BitVec 64→List Ev→BitVec 64
 | last,[]=>last
 | _,e::r=>lastT e.t r
theorem GoodL.take:∀ {es:List Ev} {last:BitVec 64} (k:Nat),GoodL last es→GoodL last (es.take k)
 | [],_,k,_=>by rw [List.take_nil]; trivial
 | _::_,_,0,_=>trivial
 | _::_,_,k+1,⟨h1,h2,h3⟩=>⟨h1,fun h=>by rw [h2 h]; exact List.take_nil,GoodL.take k h3⟩
theorem GoodL.hi:∀ {es:List Ev} {last:BitVec 64} {k:Nat} {z:Ev},GoodL last es→es[k]?=some z→z.t.toNat≤1125899906842624
 | [],_,k,_,_,h=>by simp at h
 | e::r,_,0,z,⟨h1,_,_⟩,h=>by simp at h; subst h; exact h1.hi
 | e::r,_,k+1,z,⟨_,_,h3⟩,h=>GoodL.hi h3 (by simpa using h)
theorem lastT_le:∀ {es:List Ev} {last:BitVec 64} {k:Nat} {z:Ev},GoodL last es→es[k]?=some z→(lastT last (es.take k)).toNat≤z.t.toNat
 | [],_,k,_,_,h=>by simp at h
 | e::r,_,0,z,⟨h1,_,_⟩,h=>by simp at h; subst h; exact h1.lo
 | e::r,_,k+1,z,⟨_,_,h3⟩,h=>lastT_le (k:=k) h3 (by simpa using h)
theorem lastT_eq:∀ {es:List Ev} {last:BitVec 64} {k:Nat} {z:Ev},es[k]?=some z→lastT last (es.take (k+1))=z.t
 | [],_,k,_,h=>by simp at h
 | e::r,_,0,z,h=>by simp at h; subst h; rfl
 | e::r,last,k+1,z,h=>by
  rw [List.take_succ_cons]
  exact lastT_eq (last:=e.t) (k:=k) (by simpa using h)
end Ev
end
section
namespace Sx
open Go.RowKit Sha Vi Ev

set_option maxRecDepth 20000 in
theorem fn_erowG {W:World} {ms:List Nat} {a:Option Addr} {n c:Nat} {es:List Ev} (h:EvsAt W ms a n c es) {aK:Option Addr} {nK cK:Nat} {ks:Bs} (hK:BsAt W ms aK nK cK ks) (hl:∀ e∈es,e.N.length≤30∧e.D.length≤100) (hn60:n≤60) :
  FnR Tryd.prog tds 21 1 [[.past W ms]] [.c (.slc a n c),.c (.slc aK nK cK)] (fun _=>True)
  (fun y hs=>∃ a' c' W' ms',Later W ms W' ms'∧EvsAt W' ms' a' n c' (rowE ks es 0 0#64)∧(n=0→a'=none)∧y=.a (.c (.slc a' n c'))∧hs=[[.past W' ms']]):=by
 rcases Nat.eq_zero_or_pos n with hn|hn
 ·obtain rfl:es=[]:=List.length_eq_zero_iff.1 (by rw [h.len,hn])
  subst hn
  refine (fn_erow0 (W:=W) (ms:=ms) (a:=a) (c:=c) rfl (aK:=aK) (nK:=nK) (cK:=cK)).mono (fun y hs ⟨h1,h2⟩=>⟨none,0,W,ms,Later.refl _ _,EvsAt.nul,fun _=>rfl,h1,h2⟩)
 ·exact (fn_erowF h hK hl hn60).mono (fun y hs ⟨a',c',W',ms',h1,h2,h3,h4⟩=>⟨a',c',W',ms',h1,h2,fun hc=>absurd hc (by omega),h3,h4⟩)
end Sx
end
section
namespace Sx
open Go.RowKit Sha Vi Ev

abbrev ev4 (t:BitVec 64):List SC:=[.w8 6#8,.w64 t,.sl 3 0 0 1 1,.slc none 0 0]
theorem eqC_cells {q:List Nat} {f:Nat→SC} {L:List SC} (hf:∀ j,j<L.length→f j=nthC L j) (hL:∀ x∈L,eqC q x x True) (j:Nat):eqC q (f j) (nthC L j) True:=by
 rcases Nat.lt_or_ge j L.length with h|h
 ·rw [hf j h]; exact hL _ (nthC_mem h)
 ·rw [nthC_out h]; trivial
abbrev evN (t:BitVec 64):List Seg:=[.one (.w8 6#8),.one (.w64 t),.one (.sl 3 0 0 1 1),.one (.slc none 0 0)]
end Sx
end
section
namespace Sx
open Go.RowKit Sha Vi Ev

set_option maxRecDepth 20000 in
set_option maxHeartbeats 16000000 in
theorem fn_qwithS {W:World} {ms:List Nat} {A:Addr} {n c:Nat} {es:List Ev} (h:EvsAt W ms (some A) n c es) (hn:0<n) (hn2:n≤100) {x:EvC} {e:Ev} (hx:EvAt W ms x e) (k:Nat) (hk:k≤n) :
  FnR Tryd.prog tds 22 3 [[.past W ms],[.one (.slc (some A) n c)],[.one (.int .i64 (k:Int))]] [.agg (evS e x),.c (.p 1 0 0),.c (.p 2 0 0)] (fun _=>True)
  (fun y hs=>∃ a' c' W' ms',Later W ms W' ms'∧EvsAt W' ms' a' (n+1) c' (es.take k++e::es.drop k)∧y=.a (.c (.slc a' (n+1) c'))∧hs=[[.past W' ms'],[.one (.slc (some A) n c)],[.one (.int .i64 (k:Int))]]):=by
 have hlen:=h.len
 have hle:=h.le
 have hcap:=h.cap
 obtain ⟨cs,hrow,him⟩:=h.row hn
 refine fn_of_bodyW tds_ok follows_ Tryd.func22 rfl (t:=.a (.agg (evS e x))::.a (.c (.p 1 0 0))::.a (.c (.p 2 0 0))::anys (Tryd.f22.ntmps-3)) rfl (fun w r0 hr _=>?_)
 obtain ⟨x0,x1,x2,rfl⟩:=len3' hr
 (repeat show _∧_;first|refine yr ?_|refine yt ?_|refine yf ?_|refine yo ?_)
 refine ⟨some [3],[1001,1001,1002,1003,1005,1008,1009,1010,3,0,6,3,4,6,2006,2007,2011,2012,0,2004,2007,2011,2012,0,2000,2004,2007,2011,2012,0],[(0,false),(1,true),(2,true),(3,true),(4,false),(5,true),(6,false),(7,false),(8,true),(9,true),(10,true),(11,false),(12,false)],[],by (show planAny tds _ _ _ _=true; decide +kernel),?_⟩
 (repeat show _∧_;first|refine yr ?_|refine yt ?_|refine yf ?_|refine yo ?_)
 refine frcN_of (show ((k:Int)).toNat=k by omega) ?_
 refine frcN_of (show ((n:Int)).toNat=n by omega) ?_
 refine frcN_of (rfl:n-k=n-k) ?_
 refine frcN_of (rfl:c-k=c-k) ?_
 have hc0:¬ c=0:=by omega
 rw [if_neg hc0]
 obtain ⟨A2,hA2⟩:∃ A2,(if c=k then some A else Option.map (fun x=>x.add (k*4)) (some A))=some A2:=by split <;> exact ⟨_,rfl⟩
 rw [show (if c=k then some A else Option.map (fun x=>x.add (k*4)) (some A))=some A2 from hA2]
 have hcl:=hrow.len
 have src1:∀ {C:Cx} {h:List (List Seg)},(h[0]?=some [.past W ms])→(((k:Nat):Int).toNat-0=0∨RawAt C h (A.add (0*4)) ((List.range ((((k:Nat):Int).toNat-0)*4)).map (nthC (cs.drop (0*4))))):=fun hp=>.inr (raw_sub hp him _ _ (by omega))
 have src2:∀ {C:Cx} {h:List (List Seg)},(h[0]?=some [.past W ms])→(n-k=0∨RawAt C h A2 ((List.range ((n-k)*4)).map (nthC (cs.drop (k*4))))):=fun hp=>by
  by_cases hck:c=k
  ·exact .inl (by omega)
  ·rw [if_neg hck] at hA2
   injection hA2 with hA2
   subst hA2
   exact .inr (raw_sub hp him _ _ (by omega))
 have hR:RowAt W ms ((cs.take (k*4)++flat (evS e x))++cs.drop (k*4)) (es.take k++e::es.drop k):=by
  have:=((hrow.take k (by omega)).snoc hx).append (hrow.drop k (by omega))
  rw [List.append_assoc (es.take k)] at this
  exact this
 have hRl:(es.take k++e::es.drop k).length=n+1:=by rw [List.length_append,List.length_take,List.length_cons,List.length_drop]; omega
 refine And.intro ?_ ?_
 ·(repeat show _∧_;first|refine yr ?_|refine yt ?_|refine yf ?_|refine yo ?_)
  refine And.intro ?_ ?_
  ·refine ⟨nthC (cs.drop (0*4)),src1 rfl,?_⟩
   refine ⟨⟨Nat.le_refl _,(show 0+scale 0 (3+1)≤0 by decide),(show (0+(((k:Nat):Int).toNat-0))*64≤140737488355328 by omega)⟩,fun c1 hc1=>?_⟩
   (repeat show _∧_;first|refine yr ?_|refine yt ?_|refine yf ?_|refine yo ?_)
   refine And.intro (show 0+4≤4 by decide) ?_
   (repeat show _∧_;first|refine yr ?_|refine yt ?_|refine yf ?_|refine yo ?_)
   refine And.intro ⟨hc1,Nat.le_of_eq (Nat.zero_add _),(show (0+(((k:Nat):Int).toNat-0)+1)*64≤140737488355328 by omega)⟩ ?_
   intro c2 hc2
   (repeat show _∧_;first|refine yr ?_|refine yt ?_|refine yf ?_|refine yo ?_)
   refine ⟨nthC (cs.drop (k*4)),src2 rfl,?_⟩
   refine And.intro ⟨hc2,Nat.le_of_eq (Nat.zero_add _),(show (0+(((k:Nat):Int).toNat-0)+1+(n-k))*64≤140737488355328 by omega)⟩ ?_
   intro c3 hc3
   have hc3:0+(((k:Nat):Int).toNat-0)+1+(n-k)≤c3:=hc3
   (repeat show _∧_;first|refine yr ?_|refine yt ?_|refine yf ?_|refine yo ?_)
   refine finW_frz [0,1,2] rfl (Nat.zero_lt_succ 2) cx0_m rfl (fun W9 ms9 α hL9 hI=>?_)
   have hEv:=hR.frzF (F:=fun j=>!memB j [0,1,2]) (n:=n+1) (c:=c3) hL9 (by exact fun j hj=>app_csm (cs:=cs.take (k*4)++flat (evS e x)) (n:=0+(((k:Nat):Int).toNat-0)+1) (m:=n-k) (by rw [List.length_append,List.length_take]; show _+4=_; omega) (fun j hj=>app_csm (cs:=cs.take (k*4)) (n:=0+(((k:Nat):Int).toNat-0)) (m:=1) (by rw [List.length_take]; omega) (fun j hj=>app_csm (cs:=[]) (n:=0) (m:=((k:Nat):Int).toNat-0) rfl (fun j hj=>absurd hj (Nat.not_lt_zero _)) (by rw [List.length_take]; omega) (fun j hj=>by rw [nthC_take (by omega) (by omega),Nat.zero_mul,List.drop_zero]) j hj) rfl (fun j hj=>updN_new hj) j hj) (by rw [List.length_drop]; omega) (fun j hj=>rfl) j hj) (hI 8 rfl) hRl (by omega) (by omega)
   refine ⟨.a (.c (.slc (some ((α 8).add (0+0))) (n+1) c3)),[[.one (.slc (some A) n c)],[.one (.int .i64 (k:Int))]],⟨⟨rfl,rfl,rfl⟩,?_⟩,some ((α 8).add (0+0)),c3,W9,ms9,hL9,hEv,rfl,rfl⟩
   refine ⟨by rw [show 0+(((k:Nat):Int).toNat-0)+1+(n-k)=n+1 by omega]; rfl,?_⟩
   (repeat first|exact trivial|refine ent1 ?_)
  ·(repeat show _∧_;first|refine yr ?_|refine yt ?_|refine yf ?_|refine yo ?_)
   refine And.intro (show 0+4≤4 by decide) ?_
   (repeat show _∧_;first|refine yr ?_|refine yt ?_|refine yf ?_|refine yo ?_)
   refine ⟨nthC (cs.drop (0*4)),src1 rfl,?_⟩
   refine ⟨⟨Nat.le_refl _,(show 0+scale 0 (3+1)≤0 by decide),(show (0+(((k:Nat):Int).toNat-0))*64≤140737488355328 by omega)⟩,fun c1 hc1=>?_⟩
   (repeat show _∧_;first|refine yr ?_|refine yt ?_|refine yf ?_|refine yo ?_)
   refine And.intro ⟨hc1,Nat.le_of_eq (Nat.zero_add _),(show (0+(((k:Nat):Int).toNat-0)+1)*64≤140737488355328 by omega)⟩ ?_
   intro c2 hc2
   (repeat show _∧_;first|refine yr ?_|refine yt ?_|refine yf ?_|refine yo ?_)
   refine ⟨nthC (cs.drop (k*4)),src2 rfl,?_⟩
   refine And.intro ⟨hc2,Nat.le_of_eq (Nat.zero_add _),(show (0+(((k:Nat):Int).toNat-0)+1+(n-k))*64≤140737488355328 by omega)⟩ ?_
   intro c3 hc3
   have hc3:0+(((k:Nat):Int).toNat-0)+1+(n-k)≤c3:=hc3
   (repeat show _∧_;first|refine yr ?_|refine yt ?_|refine yf ?_|refine yo ?_)
   refine finW_frz [0,1,2] rfl (Nat.zero_lt_succ 2) cx0_m rfl (fun W9 ms9 α hL9 hI=>?_)
   have hEv:=hR.frzF (F:=fun j=>!memB j [0,1,2]) (n:=n+1) (c:=c3) hL9 (by exact fun j hj=>app_csm (cs:=cs.take (k*4)++flat (evS e x)) (n:=0+(((k:Nat):Int).toNat-0)+1) (m:=n-k) (by rw [List.length_append,List.length_take]; show _+4=_; omega) (fun j hj=>app_csm (cs:=cs.take (k*4)) (n:=0+(((k:Nat):Int).toNat-0)) (m:=1) (by rw [List.length_take]; omega) (fun j hj=>app_csm (cs:=[]) (n:=0) (m:=((k:Nat):Int).toNat-0) rfl (fun j hj=>absurd hj (Nat.not_lt_zero _)) (by rw [List.length_take]; omega) (fun j hj=>by rw [nthC_take (by omega) (by omega),Nat.zero_mul,List.drop_zero]) j hj) rfl (fun j hj=>updN_new hj) j hj) (by rw [List.length_drop]; omega) (fun j hj=>rfl) j hj) (hI 8 rfl) hRl (by omega) (by omega)
   refine ⟨.a (.c (.slc (some ((α 8).add (0+0))) (n+1) c3)),[[.one (.slc (some A) n c)],[.one (.int .i64 (k:Int))]],⟨⟨rfl,rfl,rfl⟩,?_⟩,some ((α 8).add (0+0)),c3,W9,ms9,hL9,hEv,rfl,rfl⟩
   refine ⟨by rw [show 0+(((k:Nat):Int).toNat-0)+1+(n-k)=n+1 by omega]; rfl,?_⟩
   (repeat first|exact trivial|refine ent1 ?_)
 ·(repeat show _∧_;first|refine yr ?_|refine yt ?_|refine yf ?_|refine yo ?_)
  refine And.intro (show 0+4≤4 by decide) ?_
  (repeat show _∧_;first|refine yr ?_|refine yt ?_|refine yf ?_|refine yo ?_)
  refine ⟨nthC (cs.drop (0*4)),src1 rfl,?_⟩
  refine ⟨⟨Nat.le_refl _,(show 0+scale 0 (3+1)≤0 by decide),(show (0+(((k:Nat):Int).toNat-0))*64≤140737488355328 by omega)⟩,fun c1 hc1=>?_⟩
  (repeat show _∧_;first|refine yr ?_|refine yt ?_|refine yf ?_|refine yo ?_)
  refine And.intro ⟨hc1,Nat.le_of_eq (Nat.zero_add _),(show (0+(((k:Nat):Int).toNat-0)+1)*64≤140737488355328 by omega)⟩ ?_
  intro c2 hc2
  (repeat show _∧_;first|refine yr ?_|refine yt ?_|refine yf ?_|refine yo ?_)
  refine ⟨nthC (cs.drop (k*4)),src2 rfl,?_⟩
  refine And.intro ⟨hc2,Nat.le_of_eq (Nat.zero_add _),(show (0+(((k:Nat):Int).toNat-0)+1+(n-k))*64≤140737488355328 by omega)⟩ ?_
  intro c3 hc3
  have hc3:0+(((k:Nat):Int).toNat-0)+1+(n-k)≤c3:=hc3
  (repeat show _∧_;first|refine yr ?_|refine yt ?_|refine yf ?_|refine yo ?_)
  refine finW_frz [0,1,2] rfl (Nat.zero_lt_succ 2) cx0_m rfl (fun W9 ms9 α hL9 hI=>?_)
  have hEv:=hR.frzF (F:=fun j=>!memB j [0,1,2]) (n:=n+1) (c:=c3) hL9 (by exact fun j hj=>app_csm (cs:=cs.take (k*4)++flat (evS e x)) (n:=0+(((k:Nat):Int).toNat-0)+1) (m:=n-k) (by rw [List.length_append,List.length_take]; show _+4=_; omega) (fun j hj=>app_csm (cs:=cs.take (k*4)) (n:=0+(((k:Nat):Int).toNat-0)) (m:=1) (by rw [List.length_take]; omega) (fun j hj=>app_csm (cs:=[]) (n:=0) (m:=((k:Nat):Int).toNat-0) rfl (fun j hj=>absurd hj (Nat.not_lt_zero _)) (by rw [List.length_take]; omega) (fun j hj=>by rw [nthC_take (by omega) (by omega),Nat.zero_mul,List.drop_zero]) j hj) rfl (fun j hj=>updN_new hj) j hj) (by rw [List.length_drop]; omega) (fun j hj=>rfl) j hj) (hI 8 rfl) hRl (by omega) (by omega)
  refine ⟨.a (.c (.slc (some ((α 8).add (0+0))) (n+1) c3)),[[.one (.slc (some A) n c)],[.one (.int .i64 (k:Int))]],⟨⟨rfl,rfl,rfl⟩,?_⟩,some ((α 8).add (0+0)),c3,W9,ms9,hL9,hEv,rfl,rfl⟩
  refine ⟨by rw [show 0+(((k:Nat):Int).toNat-0)+1+(n-k)=n+1 by omega]; rfl,?_⟩
  (repeat first|exact trivial|refine ent1 ?_)
end Sx
end
section
namespace Sx
open Go.RowKit Sha Vi Ev

set_option maxRecDepth 20000 in
set_option maxHeartbeats 16000000 in
theorem fn_qwith0 {W:World} {ms:List Nat} {x:EvC} {e:Ev} (hx:EvAt W ms x e) :
  FnR Tryd.prog tds 22 3 [[.past W ms],[.one (.slc none 0 0)],[.one (.int .i64 0)]] [.agg (evS e x),.c (.p 1 0 0),.c (.p 2 0 0)] (fun _=>True)
  (fun y hs=>∃ a' c' W' ms',Later W ms W' ms'∧EvsAt W' ms' a' 1 c' [e]∧y=.a (.c (.slc a' 1 c'))∧hs=[[.past W' ms'],[.one (.slc none 0 0)],[.one (.int .i64 0)]]):=by
 refine fn_of_bodyW tds_ok follows_ Tryd.func22 rfl (t:=.a (.agg (evS e x))::.a (.c (.p 1 0 0))::.a (.c (.p 2 0 0))::anys (Tryd.f22.ntmps-3)) rfl (fun w r0 hr _=>?_)
 obtain ⟨x0,x1,x2,rfl⟩:=len3' hr
 (repeat show _∧_;first|refine yr ?_|refine yt ?_|refine yf ?_|refine yo ?_)
 refine ⟨some [3],[1001,1001,1002,1003,1005,1008,1009,1010,3,0,6,3,4,6,2006,2007,2011,2012,0,2004,2007,2011,2012,0,2000,2004,2007,2011,2012,0],[(0,false),(1,true),(2,true),(3,true),(4,false),(5,true),(6,false),(7,false),(8,true),(9,true),(10,true),(11,false),(12,false)],[],by (show planAny tds _ _ _ _=true; decide +kernel),?_⟩
 (repeat show _∧_;first|refine yr ?_|refine yt ?_|refine yf ?_|refine yo ?_)
 have hR:RowAt W ms (([]++flat (evS e x))++[]) [e]:=(RowAt.nil.snoc hx).append RowAt.nil
 refine And.intro ?_ ?_
 ·(repeat show _∧_;first|refine yr ?_|refine yt ?_|refine yf ?_|refine yo ?_)
  refine And.intro ?_ ?_
  ·refine ⟨rfl,?_⟩
   refine ⟨⟨Nat.le_refl _,(show 0+scale 0 (3+1)≤0 by decide),(show (0+(0))*64≤140737488355328 by omega)⟩,fun c1 hc1=>?_⟩
   (repeat show _∧_;first|refine yr ?_|refine yt ?_|refine yf ?_|refine yo ?_)
   refine And.intro (show 0+4≤4 by decide) ?_
   (repeat show _∧_;first|refine yr ?_|refine yt ?_|refine yf ?_|refine yo ?_)
   refine And.intro ⟨hc1,Nat.le_of_eq (Nat.zero_add _),(show (0+(0)+1)*64≤140737488355328 by omega)⟩ ?_
   intro c2 hc2
   (repeat show _∧_;first|refine yr ?_|refine yt ?_|refine yf ?_|refine yo ?_)
   refine And.intro ⟨hc2,Nat.le_of_eq (Nat.zero_add _),(show (0+(0)+1+0)*64≤140737488355328 by omega)⟩ ?_
   intro c3 hc3
   have hc3:0+(0)+1+0≤c3:=hc3
   (repeat show _∧_;first|refine yr ?_|refine yt ?_|refine yf ?_|refine yo ?_)
   refine finW_frz [0,1,2] rfl (Nat.zero_lt_succ 2) cx0_m rfl (fun W9 ms9 α hL9 hI=>?_)
   have hEv:=hR.frzF (F:=fun j=>!memB j [0,1,2]) (n:=1) (c:=c3) hL9 (by exact fun j hj=>app_csm (cs:=[]++flat (evS e x)) (n:=0+0+1) (m:=0) (by rfl) (fun j hj=>app_csm (cs:=[]) (n:=0+0) (m:=1) rfl (fun j hj=>absurd hj (Nat.not_lt_zero _)) rfl (fun j hj=>updN_new hj) j hj) rfl (fun j hj=>absurd hj (by omega)) j hj) (hI 8 rfl) rfl (by omega) (by decide)
   refine ⟨.a (.c (.slc (some ((α 8).add (0+0))) 1 c3)),[[.one (.slc none 0 0)],[.one (.int .i64 0)]],⟨⟨rfl,rfl,rfl⟩,?_⟩,some ((α 8).add (0+0)),c3,W9,ms9,hL9,hEv,rfl,rfl⟩
   refine ⟨rfl,?_⟩
   (repeat first|exact trivial|refine ent1 ?_)
  ·(repeat show _∧_;first|refine yr ?_|refine yt ?_|refine yf ?_|refine yo ?_)
   refine And.intro (show 0+4≤4 by decide) ?_
   (repeat show _∧_;first|refine yr ?_|refine yt ?_|refine yf ?_|refine yo ?_)
   intro c1 hc1
   (repeat show _∧_;first|refine yr ?_|refine yt ?_|refine yf ?_|refine yo ?_)
   refine And.intro ⟨hc1,Nat.le_of_eq (Nat.zero_add _),(show (0+(0)+1)*64≤140737488355328 by omega)⟩ ?_
   intro c2 hc2
   (repeat show _∧_;first|refine yr ?_|refine yt ?_|refine yf ?_|refine yo ?_)
   refine And.intro ⟨hc2,Nat.le_of_eq (Nat.zero_add _),(show (0+(0)+1+0)*64≤140737488355328 by omega)⟩ ?_
   intro c3 hc3
   have hc3:0+(0)+1+0≤c3:=hc3
   (repeat show _∧_;first|refine yr ?_|refine yt ?_|refine yf ?_|refine yo ?_)
   refine finW_frz [0,1,2] rfl (Nat.zero_lt_succ 2) cx0_m rfl (fun W9 ms9 α hL9 hI=>?_)
   have hEv:=hR.frzF (F:=fun j=>!memB j [0,1,2]) (n:=1) (c:=c3) hL9 (by exact fun j hj=>app_csm (cs:=[]++flat (evS e x)) (n:=0+0+1) (m:=0) (by rfl) (fun j hj=>app_csm (cs:=[]) (n:=0+0) (m:=1) rfl (fun j hj=>absurd hj (Nat.not_lt_zero _)) rfl (fun j hj=>updN_new hj) j hj) rfl (fun j hj=>absurd hj (by omega)) j hj) (hI 8 rfl) rfl (by omega) (by decide)
   refine ⟨.a (.c (.slc (some ((α 8).add (0+0))) 1 c3)),[[.one (.slc none 0 0)],[.one (.int .i64 0)]],⟨⟨rfl,rfl,rfl⟩,?_⟩,some ((α 8).add (0+0)),c3,W9,ms9,hL9,hEv,rfl,rfl⟩
   refine ⟨rfl,?_⟩
   (repeat first|exact trivial|refine ent1 ?_)
 ·(repeat show _∧_;first|refine yr ?_|refine yt ?_|refine yf ?_|refine yo ?_)
  refine And.intro (show 0+4≤4 by decide) ?_
  (repeat show _∧_;first|refine yr ?_|refine yt ?_|refine yf ?_|refine yo ?_)
  intro c1 hc1
  (repeat show _∧_;first|refine yr ?_|refine yt ?_|refine yf ?_|refine yo ?_)
  refine And.intro ⟨hc1,Nat.le_of_eq (Nat.zero_add _),(show (0+(0)+1)*64≤140737488355328 by omega)⟩ ?_
  intro c2 hc2
  (repeat show _∧_;first|refine yr ?_|refine yt ?_|refine yf ?_|refine yo ?_)
  refine And.intro ⟨hc2,Nat.le_of_eq (Nat.zero_add _),(show (0+(0)+1+0)*64≤140737488355328 by omega)⟩ ?_
  intro c3 hc3
  have hc3:0+(0)+1+0≤c3:=hc3
  (repeat show _∧_;first|refine yr ?_|refine yt ?_|refine yf ?_|refine yo ?_)
  refine finW_frz [0,1,2] rfl (Nat.zero_lt_succ 2) cx0_m rfl (fun W9 ms9 α hL9 hI=>?_)
  have hEv:=hR.frzF (F:=fun j=>!memB j [0,1,2]) (n:=1) (c:=c3) hL9 (by exact fun j hj=>app_csm (cs:=[]++flat (evS e x)) (n:=0+0+1) (m:=0) (by rfl) (fun j hj=>app_csm (cs:=[]) (n:=0+0) (m:=1) rfl (fun j hj=>absurd hj (Nat.not_lt_zero _)) rfl (fun j hj=>updN_new hj) j hj) rfl (fun j hj=>absurd hj (by omega)) j hj) (hI 8 rfl) rfl (by omega) (by decide)
  refine ⟨.a (.c (.slc (some ((α 8).add (0+0))) 1 c3)),[[.one (.slc none 0 0)],[.one (.int .i64 0)]],⟨⟨rfl,rfl,rfl⟩,?_⟩,some ((α 8).add (0+0)),c3,W9,ms9,hL9,hEv,rfl,rfl⟩
  refine ⟨rfl,?_⟩
  (repeat first|exact trivial|refine ent1 ?_)
end Sx
end
section
namespace Sx
open Go.RowKit Sha Vi Ev

theorem fn_qwith {W:World} {ms:List Nat} {a:Option Addr} {n c:Nat} {es:List Ev} (h:EvsAt W ms a n c es) (hz:n=0→a=none) (hn2:n≤100) {x:EvC} {e:Ev} (hx:EvAt W ms x e) (k:Nat) (hk:k≤n) :
  FnR Tryd.prog tds 22 3 [[.past W ms],[.one (.slc a n c)],[.one (.int .i64 (k:Int))]] [.agg (evS e x),.c (.p 1 0 0),.c (.p 2 0 0)] (fun _=>True)
  (fun y hs=>∃ a' c' W' ms',Later W ms W' ms'∧EvsAt W' ms' a' (n+1) c' (es.take k++e::es.drop k)∧y=.a (.c (.slc a' (n+1) c'))∧hs=[[.past W' ms'],[.one (.slc a n c)],[.one (.int .i64 (k:Int))]]):=by
 rcases Nat.eq_zero_or_pos n with hn|hn
 ·obtain rfl:a=none:=hz hn
  obtain rfl:c=0:=h.nil rfl
  obtain rfl:es=[]:=List.length_eq_zero_iff.1 (by rw [h.len,hn])
  subst hn
  obtain rfl:k=0:=by omega
  exact fn_qwith0 hx
 ·cases a with
  | none=>have:=h.nil rfl; have:=h.le; omega
  | some A=>exact fn_qwithS h hn hn2 hx k hk
end Sx
end
section
namespace Sx
open Go.RowKit Sha Vi Ev

set_option maxRecDepth 20000 in
set_option maxHeartbeats 16000000 in
theorem fn_qwithN {W:World} {ms:List Nat} {A:Addr} {n c:Nat} {cs:List SC} {es:List Ev} (hrow:RowAt W ms cs es) (him:ImAt W ms A cs) (hlen:es.length=n) (hle:n≤c) (hn:0<n) (hn2:n≤100) (t:BitVec 64) (k:Nat) (hk:k≤n) :
  FnR Tryd.prog tds 22 4 [[.past W ms],[.one (.slc (some A) n c)],[.one (.int .i64 (k:Int))],[.row 1 (nthC [.w64 1#64])]] [.agg (evN t),.c (.p 1 0 0),.c (.p 2 0 0)] (fun _=>True)
  (fun y hs=>∃ c',n+1≤c'∧y=.a (.c (.sl 4 0 0 (n+1) c'))∧hs=[[.past W ms],[.one (.slc (some A) n c)],[.one (.int .i64 (k:Int))],[.row 1 (nthC [.w64 1#64])],[.row (scale c' (3+1)) (nthC ((cs.take (k*4)++ev4 t)++cs.drop (k*4)))]]):=by
 refine fn_of_body tds_ok follows_ Tryd.func22 rfl (t:=.a (.agg (evN t))::.a (.c (.p 1 0 0))::.a (.c (.p 2 0 0))::anys (Tryd.f22.ntmps-3)) rfl (fun w r0 hr _=>?_)
 obtain ⟨x0,x1,x2,x3,rfl⟩:=len4' hr
 (repeat show _∧_;first|refine yr ?_|refine yt ?_|refine yf ?_|refine yo ?_)
 refine ⟨some [4],[1001,1001,1002,1003,1005,1008,1009,1010,3,0,6,3,4,6,2006,2007,2011,2012,0,2004,2007,2011,2012,0,2000,2004,2007,2011,2012,0],[(0,false),(1,true),(2,true),(3,true),(4,false),(5,true),(6,false),(7,false),(8,true),(9,true),(10,true),(11,false),(12,false)],[],by (show planAny tds _ _ _ _=true; decide +kernel),?_⟩
 (repeat show _∧_;first|refine yr ?_|refine yt ?_|refine yf ?_|refine yo ?_)
 refine frcN_of (show ((k:Int)).toNat=k by omega) ?_
 refine frcN_of (show ((n:Int)).toNat=n by omega) ?_
 refine frcN_of (rfl:n-k=n-k) ?_
 refine frcN_of (rfl:c-k=c-k) ?_
 have hc0:¬ c=0:=by omega
 rw [if_neg hc0]
 obtain ⟨A2,hA2⟩:∃ A2,(if c=k then some A else Option.map (fun x=>x.add (k*4)) (some A))=some A2:=by split <;> exact ⟨_,rfl⟩
 rw [show (if c=k then some A else Option.map (fun x=>x.add (k*4)) (some A))=some A2 from hA2]
 have hcl:=hrow.len
 have src1:∀ {C:Cx} {h:List (List Seg)},(h[0]?=some [.past W ms])→(((k:Nat):Int).toNat-0=0∨RawAt C h (A.add (0*4)) ((List.range ((((k:Nat):Int).toNat-0)*4)).map (nthC (cs.drop (0*4))))):=fun hp=>.inr (raw_sub hp him _ _ (by omega))
 have src2:∀ {C:Cx} {h:List (List Seg)},(h[0]?=some [.past W ms])→(n-k=0∨RawAt C h A2 ((List.range ((n-k)*4)).map (nthC (cs.drop (k*4))))):=fun hp=>by
  by_cases hck:c=k
  ·exact .inl (by omega)
  ·rw [if_neg hck] at hA2
   injection hA2 with hA2
   subst hA2
   exact .inr (raw_sub hp him _ _ (by omega))
 have hLr:∀ x∈(cs.take (k*4)++ev4 t)++cs.drop (k*4),eqC [0,1,2,3,9] x x True:=by
  intro x hx
  rcases List.mem_append.1 hx with hx|hx
  ·rcases List.mem_append.1 hx with hx|hx
   ·exact eqC_raw (hrow.raw x (List.mem_of_mem_take hx))
   ·simp only [List.mem_cons,List.not_mem_nil,or_false] at hx
    rcases hx with rfl|rfl|rfl|rfl
    ·(repeat first|exact trivial|refine ent1 ?_)
    ·(repeat first|exact trivial|refine ent1 ?_)
    ·(repeat first|exact trivial|refine ent1 ?_)
    ·(repeat first|exact trivial|refine ent1 ?_)
  ·exact eqC_raw (hrow.raw x (List.mem_of_mem_drop hx))
 refine And.intro ?_ ?_
 ·(repeat show _∧_;first|refine yr ?_|refine yt ?_|refine yf ?_|refine yo ?_)
  refine And.intro ?_ ?_
  ·refine ⟨nthC (cs.drop (0*4)),src1 rfl,?_⟩
   refine ⟨⟨Nat.le_refl _,(show 0+scale 0 (3+1)≤0 by decide),(show (0+(((k:Nat):Int).toNat-0))*64≤140737488355328 by omega)⟩,fun c1 hc1=>?_⟩
   (repeat show _∧_;first|refine yr ?_|refine yt ?_|refine yf ?_|refine yo ?_)
   refine And.intro (show 0+4≤4 by decide) ?_
   (repeat show _∧_;first|refine yr ?_|refine yt ?_|refine yf ?_|refine yo ?_)
   refine And.intro ⟨hc1,Nat.le_of_eq (Nat.zero_add _),(show (0+(((k:Nat):Int).toNat-0)+1)*64≤140737488355328 by omega)⟩ ?_
   intro c2 hc2
   (repeat show _∧_;first|refine yr ?_|refine yt ?_|refine yf ?_|refine yo ?_)
   refine ⟨nthC (cs.drop (k*4)),src2 rfl,?_⟩
   refine And.intro ⟨hc2,Nat.le_of_eq (Nat.zero_add _),(show (0+(((k:Nat):Int).toNat-0)+1+(n-k))*64≤140737488355328 by omega)⟩ ?_
   intro c3 hc3
   have hc3:0+(((k:Nat):Int).toNat-0)+1+(n-k)≤c3:=hc3
   (repeat show _∧_;first|refine yr ?_|refine yt ?_|refine yf ?_|refine yo ?_)
   refine ⟨.a (.c (.sl 4 0 0 (n+1) c3)),[[.past W ms],[.one (.slc (some A) n c)],[.one (.int .i64 (k:Int))],[.row 1 (nthC [.w64 1#64])],[.row (scale c3 (3+1)) (nthC ((cs.take (k*4)++ev4 t)++cs.drop (k*4)))]],⟨[0,1,2,3,9],⟨rfl,rfl,rfl⟩,?_⟩,c3,(by omega),rfl,rfl⟩
   refine ⟨rfl,(by omega:0+(((k:Nat):Int).toNat-0)+1+(n-k)=n+1),rfl,?_⟩
   (repeat first|exact trivial|refine ent1 ?_)
   refine ⟨fun j _=>eqC_cells (L:=[.w64 1#64]) (fun _ _=>rfl) (fun x hx=>by simp at hx; subst hx; (repeat first|exact trivial|refine ent1 ?_)) j,?_⟩
   (repeat first|exact trivial|refine ent1 ?_)
   refine ⟨fun j _=>eqC_cells (L:=(cs.take (k*4)++ev4 t)++cs.drop (k*4)) ?_ hLr j,?_⟩
   ·exact fun j hj=>app_csm (cs:=cs.take (k*4)++ev4 t) (n:=0+(((k:Nat):Int).toNat-0)+1) (m:=n-k) (by rw [List.length_append,List.length_take]; show _+4=_; omega) (fun j hj=>app_csm (cs:=cs.take (k*4)) (n:=0+(((k:Nat):Int).toNat-0)) (m:=1) (by rw [List.length_take]; omega) (fun j hj=>app_csm (cs:=[]) (n:=0) (m:=((k:Nat):Int).toNat-0) rfl (fun j hj=>absurd hj (Nat.not_lt_zero _)) (by rw [List.length_take]; omega) (fun j hj=>by rw [nthC_take (by omega) (by omega),Nat.zero_mul,List.drop_zero]) j hj) rfl (fun j hj=>updN_new hj) j hj) (by rw [List.length_drop]; omega) (fun j hj=>rfl) j hj
   (repeat first|exact trivial|refine ent1 ?_)
  ·(repeat show _∧_;first|refine yr ?_|refine yt ?_|refine yf ?_|refine yo ?_)
   refine And.intro (show 0+4≤4 by decide) ?_
   (repeat show _∧_;first|refine yr ?_|refine yt ?_|refine yf ?_|refine yo ?_)
   refine ⟨nthC (cs.drop (0*4)),src1 rfl,?_⟩
   refine ⟨⟨Nat.le_refl _,(show 0+scale 0 (3+1)≤0 by decide),(show (0+(((k:Nat):Int).toNat-0))*64≤140737488355328 by omega)⟩,fun c1 hc1=>?_⟩
   (repeat show _∧_;first|refine yr ?_|refine yt ?_|refine yf ?_|refine yo ?_)
   refine And.intro ⟨hc1,Nat.le_of_eq (Nat.zero_add _),(show (0+(((k:Nat):Int).toNat-0)+1)*64≤140737488355328 by omega)⟩ ?_
   intro c2 hc2
   (repeat show _∧_;first|refine yr ?_|refine yt ?_|refine yf ?_|refine yo ?_)
   refine ⟨nthC (cs.drop (k*4)),src2 rfl,?_⟩
   refine And.intro ⟨hc2,Nat.le_of_eq (Nat.zero_add _),(show (0+(((k:Nat):Int).toNat-0)+1+(n-k))*64≤140737488355328 by omega)⟩ ?_
   intro c3 hc3
   have hc3:0+(((k:Nat):Int).toNat-0)+1+(n-k)≤c3:=hc3
   (repeat show _∧_;first|refine yr ?_|refine yt ?_|refine yf ?_|refine yo ?_)
   refine ⟨.a (.c (.sl 4 0 0 (n+1) c3)),[[.past W ms],[.one (.slc (some A) n c)],[.one (.int .i64 (k:Int))],[.row 1 (nthC [.w64 1#64])],[.row (scale c3 (3+1)) (nthC ((cs.take (k*4)++ev4 t)++cs.drop (k*4)))]],⟨[0,1,2,3,9],⟨rfl,rfl,rfl⟩,?_⟩,c3,(by omega),rfl,rfl⟩
   refine ⟨rfl,(by omega:0+(((k:Nat):Int).toNat-0)+1+(n-k)=n+1),rfl,?_⟩
   (repeat first|exact trivial|refine ent1 ?_)
   refine ⟨fun j _=>eqC_cells (L:=[.w64 1#64]) (fun _ _=>rfl) (fun x hx=>by simp at hx; subst hx; (repeat first|exact trivial|refine ent1 ?_)) j,?_⟩
   (repeat first|exact trivial|refine ent1 ?_)
   refine ⟨fun j _=>eqC_cells (L:=(cs.take (k*4)++ev4 t)++cs.drop (k*4)) ?_ hLr j,?_⟩
   ·exact fun j hj=>app_csm (cs:=cs.take (k*4)++ev4 t) (n:=0+(((k:Nat):Int).toNat-0)+1) (m:=n-k) (by rw [List.length_append,List.length_take]; show _+4=_; omega) (fun j hj=>app_csm (cs:=cs.take (k*4)) (n:=0+(((k:Nat):Int).toNat-0)) (m:=1) (by rw [List.length_take]; omega) (fun j hj=>app_csm (cs:=[]) (n:=0) (m:=((k:Nat):Int).toNat-0) rfl (fun j hj=>absurd hj (Nat.not_lt_zero _)) (by rw [List.length_take]; omega) (fun j hj=>by rw [nthC_take (by omega) (by omega),Nat.zero_mul,List.drop_zero]) j hj) rfl (fun j hj=>updN_new hj) j hj) (by rw [List.length_drop]; omega) (fun j hj=>rfl) j hj
   (repeat first|exact trivial|refine ent1 ?_)
 ·(repeat show _∧_;first|refine yr ?_|refine yt ?_|refine yf ?_|refine yo ?_)
  refine And.intro (show 0+4≤4 by decide) ?_
  (repeat show _∧_;first|refine yr ?_|refine yt ?_|refine yf ?_|refine yo ?_)
  refine ⟨nthC (cs.drop (0*4)),src1 rfl,?_⟩
  refine ⟨⟨Nat.le_refl _,(show 0+scale 0 (3+1)≤0 by decide),(show (0+(((k:Nat):Int).toNat-0))*64≤140737488355328 by omega)⟩,fun c1 hc1=>?_⟩
  (repeat show _∧_;first|refine yr ?_|refine yt ?_|refine yf ?_|refine yo ?_)
  refine And.intro ⟨hc1,Nat.le_of_eq (Nat.zero_add _),(show (0+(((k:Nat):Int).toNat-0)+1)*64≤140737488355328 by omega)⟩ ?_
  intro c2 hc2
  (repeat show _∧_;first|refine yr ?_|refine yt ?_|refine yf ?_|refine yo ?_)
  refine ⟨nthC (cs.drop (k*4)),src2 rfl,?_⟩
  refine And.intro ⟨hc2,Nat.le_of_eq (Nat.zero_add _),(show (0+(((k:Nat):Int).toNat-0)+1+(n-k))*64≤140737488355328 by omega)⟩ ?_
  intro c3 hc3
  have hc3:0+(((k:Nat):Int).toNat-0)+1+(n-k)≤c3:=hc3
  (repeat show _∧_;first|refine yr ?_|refine yt ?_|refine yf ?_|refine yo ?_)
  refine ⟨.a (.c (.sl 4 0 0 (n+1) c3)),[[.past W ms],[.one (.slc (some A) n c)],[.one (.int .i64 (k:Int))],[.row 1 (nthC [.w64 1#64])],[.row (scale c3 (3+1)) (nthC ((cs.take (k*4)++ev4 t)++cs.drop (k*4)))]],⟨[0,1,2,3,9],⟨rfl,rfl,rfl⟩,?_⟩,c3,(by omega),rfl,rfl⟩
  refine ⟨rfl,(by omega:0+(((k:Nat):Int).toNat-0)+1+(n-k)=n+1),rfl,?_⟩
  (repeat first|exact trivial|refine ent1 ?_)
  refine ⟨fun j _=>eqC_cells (L:=[.w64 1#64]) (fun _ _=>rfl) (fun x hx=>by simp at hx; subst hx; (repeat first|exact trivial|refine ent1 ?_)) j,?_⟩
  (repeat first|exact trivial|refine ent1 ?_)
  refine ⟨fun j _=>eqC_cells (L:=(cs.take (k*4)++ev4 t)++cs.drop (k*4)) ?_ hLr j,?_⟩
  ·exact fun j hj=>app_csm (cs:=cs.take (k*4)++ev4 t) (n:=0+(((k:Nat):Int).toNat-0)+1) (m:=n-k) (by rw [List.length_append,List.length_take]; show _+4=_; omega) (fun j hj=>app_csm (cs:=cs.take (k*4)) (n:=0+(((k:Nat):Int).toNat-0)) (m:=1) (by rw [List.length_take]; omega) (fun j hj=>app_csm (cs:=[]) (n:=0) (m:=((k:Nat):Int).toNat-0) rfl (fun j hj=>absurd hj (Nat.not_lt_zero _)) (by rw [List.length_take]; omega) (fun j hj=>by rw [nthC_take (by omega) (by omega),Nat.zero_mul,List.drop_zero]) j hj) rfl (fun j hj=>updN_new hj) j hj) (by rw [List.length_drop]; omega) (fun j hj=>rfl) j hj
  (repeat first|exact trivial|refine ent1 ?_)
end Sx
end
section
namespace Js
open Sha

def dec (l:Bs):Nat × Nat:=Lib.decodeN l.length (L l 0).toNat (L l 1).toNat (L l 2).toNat (L l 3).toNat
def b8 (n:Nat):BitVec 8:=BitVec.ofNat 8 n
theorem b8_nat {n:Nat} (h:n<256):(b8 n).toNat=n:=by simp [b8,BitVec.toNat_ofNat,Nat.mod_eq_of_lt h]
theorem b8_self (c:BitVec 8):b8 c.toNat=c:=by simp [b8]
def scal (r:Nat):Prop:=r<55296∨(57344≤r∧r≤1114111)
def enc (r:Nat):Bs:=if r<128 then [b8 r] else if r<2048 then [b8 (192+r / 64),b8 (128+r % 64)] else if r<65536 then [b8 (224+r / 4096),b8 (128+r / 64 % 64),b8 (128+r % 64)] else [b8 (240+r / 262144),b8 (128+r / 4096 % 64),b8 (128+r / 64 % 64),b8 (128+r % 64)]
theorem enc_ne (r:Nat):enc r≠[]:=by
 unfold enc
 repeat' split
 all_goals simp
theorem enc_pos (r:Nat):0<(enc r).length:=List.length_pos_iff.2 (enc_ne r)
theorem L_cons0 (c:BitVec 8) (l:Bs):L (c::l) 0=c:=rfl
theorem L_consS (c:BitVec 8) (l:Bs) (i:Nat):L (c::l) (i+1)=L l i:=by simp [L]
theorem dec_ascii {c:BitVec 8} {l:Bs} (h:c.toNat<128):dec (c::l)=(c.toNat,1):=by
 unfold dec Lib.decodeN
 rw [L_cons0,if_pos h]
theorem dec_enc {r:Nat} (h:scal r) (t:Bs):dec (enc r++t)=(r,(enc r).length):=by
 unfold scal at h
 unfold enc
 split
 ·exact (dec_ascii (by rw [b8_nat (by omega)]; omega)).trans (by rw [b8_nat (by omega)]; rfl)
 split
 ·have h1:(b8 (192+r / 64)).toNat=192+r / 64:=b8_nat (by omega)
  have h2:(b8 (128+r % 64)).toNat=128+r % 64:=b8_nat (by omega)
  unfold dec Lib.decodeN
  simp only [List.cons_append,List.nil_append,List.length_cons,L_cons0,L_consS,h1,h2]
  rw [if_neg (by omega),if_pos ⟨by omega,by omega,by omega⟩,if_pos (by omega)]
  rw [Prod.mk.injEq]
  exact ⟨by omega,rfl⟩
 split
 ·have h1:(b8 (224+r / 4096)).toNat=224+r / 4096:=b8_nat (by omega)
  have h2:(b8 (128+r / 64 % 64)).toNat=128+r / 64 % 64:=b8_nat (by omega)
  have h3:(b8 (128+r % 64)).toNat=128+r % 64:=b8_nat (by omega)
  have e:(224+r / 4096) % 16*4096+(128+r / 64 % 64) % 64*64+(128+r % 64) % 64=r:=by omega
  unfold dec Lib.decodeN
  simp only [List.cons_append,List.nil_append,List.length_cons,L_cons0,L_consS,h1,h2,h3]
  rw [if_neg (by omega),if_neg (by omega),if_pos ⟨by omega,⟨by omega,by omega⟩,by omega,by omega⟩,e,if_pos (by omega)]
  rfl
 ·have h1:(b8 (240+r / 262144)).toNat=240+r / 262144:=b8_nat (by omega)
  have h2:(b8 (128+r / 4096 % 64)).toNat=128+r / 4096 % 64:=b8_nat (by omega)
  have h3:(b8 (128+r / 64 % 64)).toNat=128+r / 64 % 64:=b8_nat (by omega)
  have h4:(b8 (128+r % 64)).toNat=128+r % 64:=b8_nat (by omega)
  have e:(240+r / 262144) % 8*262144+(128+r / 4096 % 64) % 64*4096+(128+r / 64 % 64) % 64*64+(128+r % 64) % 64=r:=by omega
  unfold dec Lib.decodeN
  simp only [List.cons_append,List.nil_append,List.length_cons,L_cons0,L_consS,h1,h2,h3,h4]
  rw [if_neg (by omega),if_neg (by omega),if_neg (by omega),if_pos ⟨by omega,⟨by omega,by omega⟩,⟨by omega,by omega⟩,by omega,by omega⟩,e,if_pos (by omega)]
  rfl
theorem L_ge {l:Bs} {i:Nat} (h:l.length≤i):L l i=0#8:=by
 unfold L; rw [List.getD_eq_getElem?_getD,List.getElem?_eq_none h]; rfl
theorem take_get:∀ (l m:Bs) (n:Nat),m.length=n→n≤l.length→(∀ i,i<n→(L l i).toNat=(L m i).toNat)→l.take n=m:=by
 intro l m n hm hn h
 apply ext_L
 ·rw [List.length_take]; omega
 ·intro i hi
  rw [List.length_take] at hi
  rw [L_take _ _ _ (by omega)]
  exact BitVec.eq_of_toNat_eq (h i (by omega))
theorem dec_ok {l:Bs} (hl:l≠[]) (h:¬ ((dec l).1=65533∧(dec l).2≤1)):scal (dec l).1∧(dec l).2=(enc (dec l).1).length∧l.take (dec l).2=enc (dec l).1∧(dec l).2≤l.length:=by
 have hpos:0<l.length:=List.length_pos_iff.2 hl
 obtain ⟨a,ha⟩:∃ a,(L l 0).toNat=a:=⟨_,rfl⟩
 obtain ⟨b,hb⟩:∃ b,(L l 1).toNat=b:=⟨_,rfl⟩
 obtain ⟨c,hc⟩:∃ c,(L l 2).toNat=c:=⟨_,rfl⟩
 obtain ⟨d,hd⟩:∃ d,(L l 3).toNat=d:=⟨_,rfl⟩
 have la:a<256:=by rw [← ha]; exact (L l 0).isLt
 have lb:b<256:=by rw [← hb]; exact (L l 1).isLt
 have lc:c<256:=by rw [← hc]; exact (L l 2).isLt
 have ld:d<256:=by rw [← hd]; exact (L l 3).isLt
 unfold dec Lib.decodeN at h ⊢
 rw [ha,hb,hc,hd] at h ⊢
 by_cases h1:a<128
 ·simp only [if_pos h1] at h ⊢
  refine ⟨.inl (by omega),by unfold enc; rw [if_pos h1]; rfl,?_,by omega⟩
  unfold enc; rw [if_pos h1]
  refine take_get _ _ _ rfl (by omega) fun i hi=>?_
  obtain rfl:i=0:=by omega
  rw [ha,L_cons0,b8_nat la]
 simp only [if_neg h1] at h ⊢
 by_cases h2:a / 32=6∧(1<l.length∧b / 64=2)
 ·simp only [if_pos h2] at h ⊢
  split at h
  ·rename_i h3
   rw [if_pos h3]
   dsimp only at h ⊢
   have e:enc (a % 32*64+b % 64)=[b8 a,b8 b]:=by
    unfold enc
    rw [if_neg (by omega),if_pos (by omega),show 192+(a % 32*64+b % 64) / 64=a by omega,show 128+(a % 32*64+b % 64) % 64=b by omega]
   refine ⟨.inl (by omega),by rw [e]; rfl,?_,by omega⟩
   rw [e]
   refine take_get _ _ _ rfl (by omega) fun i hi=>?_
   have:i=0∨i=1:=by omega
   rcases this with rfl|rfl
   ·rw [ha,L_cons0,b8_nat la]
   ·rw [hb,L_consS,L_cons0,b8_nat lb]
  ·exact absurd ⟨rfl,Nat.le_refl 1⟩ h
 simp only [if_neg h2] at h ⊢
 by_cases h4:a / 16=14∧(1<l.length∧b / 64=2)∧(2<l.length∧c / 64=2)
 ·simp only [if_pos h4] at h ⊢
  split at h
  ·rename_i h3
   rw [if_pos h3]
   dsimp only at h ⊢
   have e:enc (a % 16*4096+b % 64*64+c % 64)=[b8 a,b8 b,b8 c]:=by
    unfold enc
    rw [if_neg (by omega),if_neg (by omega),if_pos (by omega),show 224+(a % 16*4096+b % 64*64+c % 64) / 4096=a by omega,show 128+(a % 16*4096+b % 64*64+c % 64) / 64 % 64=b by omega,show 128+(a % 16*4096+b % 64*64+c % 64) % 64=c by omega]
   refine ⟨by unfold scal; omega,by rw [e]; rfl,?_,by omega⟩
   rw [e]
   refine take_get _ _ _ rfl (by omega) fun i hi=>?_
   have:i=0∨i=1∨i=2:=by omega
   rcases this with rfl|rfl|rfl
   ·rw [ha,L_cons0,b8_nat la]
   ·rw [hb,L_consS,L_cons0,b8_nat lb]
   ·rw [hc,L_consS,L_consS,L_cons0,b8_nat lc]
  ·exact absurd ⟨rfl,Nat.le_refl 1⟩ h
 simp only [if_neg h4] at h ⊢
 by_cases h5:a / 8=30∧(1<l.length∧b / 64=2)∧(2<l.length∧c / 64=2)∧(3<l.length∧d / 64=2)
 ·simp only [if_pos h5] at h ⊢
  split at h
  ·rename_i h3
   rw [if_pos h3]
   dsimp only at h ⊢
   have e:enc (a % 8*262144+b % 64*4096+c % 64*64+d % 64)=[b8 a,b8 b,b8 c,b8 d]:=by
    unfold enc
    rw [if_neg (by omega),if_neg (by omega),if_neg (by omega),show 240+(a % 8*262144+b % 64*4096+c % 64*64+d % 64) / 262144=a by omega,show 128+(a % 8*262144+b % 64*4096+c % 64*64+d % 64) / 4096 % 64=b by omega,show 128+(a % 8*262144+b % 64*4096+c % 64*64+d % 64) / 64 % 64=c by omega,show 128+(a % 8*262144+b % 64*4096+c % 64*64+d % 64) % 64=d by omega]
   refine ⟨by unfold scal; omega,by rw [e]; rfl,?_,by omega⟩
   rw [e]
   refine take_get _ _ _ rfl (by omega) fun i hi=>?_
   have:i=0∨i=1∨i=2∨i=3:=by omega
   rcases this with rfl|rfl|rfl|rfl
   ·rw [ha,L_cons0,b8_nat la]
   ·rw [hb,L_consS,L_cons0,b8_nat lb]
   ·rw [hc,L_consS,L_consS,L_cons0,b8_nat lc]
   ·rw [hd,L_consS,L_consS,L_consS,L_cons0,b8_nat ld]
  ·exact absurd ⟨rfl,Nat.le_refl 1⟩ h
 simp only [if_neg h5] at h
 simp at h
theorem dec_bad1 (l:Bs):(dec l).2≤4∧1≤(dec l).2:=by
 unfold dec Lib.decodeN
 repeat' split
 all_goals exact ⟨by dsimp only; omega,by dsimp only; omega⟩
def Utf (l:Bs):Prop:=∃ rs:List Nat,(∀ r∈rs,scal r)∧l=rs.flatMap enc
theorem Utf.nil:Utf []:=⟨[],by simp,rfl⟩
theorem Utf.ascii {l:Bs} (h:∀ c∈l,c.toNat<128):Utf l:=by
 refine ⟨l.map BitVec.toNat,fun r hr=>?_,?_⟩
 ·obtain ⟨c,hc,rfl⟩:=List.mem_map.1 hr
  exact .inl (by have:=h c hc; omega)
 ·induction l with
  | nil=>rfl
  | cons c l ih =>
   rw [List.map_cons,List.flatMap_cons,← ih fun c hc=>h c (List.mem_cons_of_mem _ hc)]
   have:enc c.toNat=[c]:=by unfold enc; rw [if_pos (h c (List.mem_cons_self ..)),b8_self]
   rw [this]; rfl
theorem enc_good {r:Nat} (h:scal r):¬ (r=65533∧(enc r).length≤1):=by
 rintro ⟨rfl,h2⟩
 revert h2
 decide
end Js
end
section
namespace Js
open Sha

inductive JT where
 | mk (k:BitVec 8) (n:BitVec 64) (s:Bs) (l:List JT) (ns:List Bs)
def JT.k:JT→BitVec 8|mk k _ _ _ _=>k
def JT.n:JT→BitVec 64|mk _ n _ _ _=>n
def JT.s:JT→Bs|mk _ _ s _ _=>s
def JT.l:JT→List JT|mk _ _ _ l _=>l
def JT.ns:JT→List Bs|mk _ _ _ _ ns=>ns
inductive R (α:Type) where
 | ok (v:α) (r:Bs)
 | bad (e:Int)
def blank (c:BitVec 8):Bool:=c == 32#8 || c == 9#8 || c == 13#8 || c == 10#8
def blanks:Bs→Bs
 | []=>[]
 | c::r=>if blank c=true then blanks r else c::r
def hexv (c:BitVec 8):Option Nat :=
 if 48≤c.toNat∧c.toNat≤57 then some (c.toNat-48) else if 97≤c.toNat∧c.toNat≤102 then some (c.toNat-87) else if 65≤c.toNat∧c.toNat≤70 then some (c.toNat-55) else none
def unit:Bs→Option (Nat × Bs)
 | a::b::c::d::e::f::r=>if a=92#8∧b=117#8 then match hexv c,hexv d,hexv e,hexv f with
  | some c,some d,some e,some f=>some (((c*16+d)*16+e)*16+f,r)
  | _,_,_,_=>none
  else none
 | _=>none
def coded (l:Bs):R Nat:=match unit l with
 | none=>.bad 4
 | some (r,t)=>if r<55296∨57343<r then .ok r t else if 56320≤r then .bad 4 else match unit t with
  | none=>.bad 4
  | some (low,u)=>if low<56320∨57343<low then .bad 4 else .ok (65536+(r-55296)*1024+(low-56320)) u
def esc1 (c:BitVec 8):Option Nat :=
 if c=34#8∨c=92#8∨c=47#8 then some c.toNat else if c=98#8 then some 8 else if c=102#8 then some 12 else if c=110#8 then some 10 else if c=114#8 then some 13 else if c=116#8 then some 9 else none
def esc (l:Bs):R Nat:=match l with
 | _::c::r=>match esc1 c with
  | some v=>.ok v r
  | none=>if c=117#8 then coded l else .bad 4
 | _=>.bad 3
def ptext:Nat→Bs→Bs→R Bs
 | 0,_,_=>.bad 3
 | _+1,[],_=>.bad 3
 | f+1,c::r,acc=>if c=34#8 then .ok acc r else if c.toNat<32 then .bad 4 else if c=92#8 then match esc (c::r) with
   | .bad e=>.bad e
   | .ok v t=>ptext f t (acc++enc v)
  else if (dec (c::r)).1=65533∧(dec (c::r)).2≤1 then .bad 4 else ptext f ((c::r).drop (dec (c::r)).2) (acc++(c::r).take (dec (c::r)).2)
def text (l:Bs):R Bs:=ptext (l.length+1) l []
def isDig (c:BitVec 8):Bool:=decide (48≤c.toNat∧c.toNat≤57)
def pnum:Nat→Bs→Option (Nat × Bs)
 | n,[]=>some (n,[])
 | n,c::r=>if isDig c=true then if 18446744073709551616≤n*10+(c.toNat-48) then none else pnum (n*10+(c.toNat-48)) r else some (n,c::r)
def number (l:Bs):R Nat:=match pnum 0 l with
 | none=>.bad 2
 | some (n,r)=>if 1<l.length-r.length∧l.head?=some 48#8 then .bad 4 else .ok n r
def plist (pv:Bs→R JT):Nat→Bs→List JT→R JT
 | 0,_,_=>.bad 4
 | f+1,l,acc=>match pv l with
  | .bad e=>.bad e
  | .ok x r=>match blanks r with
   | []=>.bad 4
   | c::r=>if c=44#8 then plist pv f r (acc++[x]) else if c=93#8 then .ok (.mk 5#8 0#64 [] (acc++[x]) []) r else .bad 4
def lists (pv:Bs→R JT) (l:Bs):R JT:=match blanks l with
 | []=>plist pv 1 [] []
 | c::r=>if c=93#8 then .ok (.mk 5#8 0#64 [] [] []) r else plist pv ((c::r).length+1) (c::r) []
def pname (l:Bs) (ns:List Bs):R Bs:=match blanks l with
 | []=>.bad 4
 | c::r=>if c=34#8 then match text r with
   | .bad e=>.bad e
   | .ok s r=>if s∈ns then .bad 18 else match blanks r with
    | []=>.bad 4
    | c::r=>if c=58#8 then .ok s r else .bad 4
  else .bad 4
def pobj (pv:Bs→R JT):Nat→Bs→List JT→List Bs→R JT
 | 0,_,_,_=>.bad 4
 | f+1,l,acc,ns=>match pname l ns with
  | .bad e=>.bad e
  | .ok s r=>match pv r with
   | .bad e=>.bad e
   | .ok x r=>match blanks r with
    | []=>.bad 4
    | c::r=>if c=44#8 then pobj pv f r (acc++[x]) (ns++[s]) else if c=125#8 then .ok (.mk 6#8 0#64 [] (acc++[x]) (ns++[s])) r else .bad 4
def objs (pv:Bs→R JT) (l:Bs):R JT:=match blanks l with
 | []=>pobj pv 1 [] [] []
 | c::r=>if c=125#8 then .ok (.mk 6#8 0#64 [] [] []) r else pobj pv ((c::r).length+1) (c::r) [] []
def word (l:Bs):R JT :=
 if l.take 4=[110#8,117#8,108#8,108#8] then .ok (.mk 0#8 0#64 [] [] []) (l.drop 4)
 else if l.take 5=[102#8,97#8,108#8,115#8,101#8] then .ok (.mk 1#8 0#64 [] [] []) (l.drop 5)
 else if l.take 4=[116#8,114#8,117#8,101#8] then .ok (.mk 2#8 0#64 [] [] []) (l.drop 4)
 else .bad 23
def pone (kl ko:Bs→R JT) (l:Bs):R JT:=match blanks l with
 | []=>.bad 23
 | c::r=>if c=34#8 then match text r with
   | .bad e=>.bad e
   | .ok s r=>.ok (.mk 4#8 0#64 s [] []) r
  else if isDig c=true then match number (c::r) with
   | .bad e=>.bad e
   | .ok n r=>.ok (.mk 3#8 (BitVec.ofNat 64 n) [] [] []) r
  else if c=91#8 then kl r
  else if c=123#8 then ko r
  else word (c::r)
def pval:Nat→Bs→R JT
 | 0=>pone (fun _=>.bad 22) (fun _=>.bad 22)
 | d+1=>pone (lists (pval d)) (objs (pval d))
def parse (s:Bs):R JT:=if 1048576<s.length then .bad 6 else match pval 8 s with
 | .bad e=>.bad e
 | .ok v r=>if blanks r=[] then .ok v [] else .bad 24
/-! What is printed. -/
def digs:Nat→Nat→Bs
 | 0,_=>[]
 | f+1,n=>if n<10 then [b8 (48+n)] else digs f (n / 10)++[b8 (48+n % 10)]
def dig (n:Nat):Bs:=digs 20 n
def hexd (n:Nat):BitVec 8:=if n<10 then b8 (48+n) else b8 (87+n)
def qr (r:Nat):Bs:=if r=34∨r=92 then [92#8,b8 r] else if r=10 then [92#8,110#8] else if r=9 then [92#8,116#8] else if r=13 then [92#8,114#8] else if r<32 then [92#8,117#8,48#8,48#8,hexd (r / 16),hexd (r % 16)] else enc r
def quoteF:Nat→Bs→Bs
 | 0,_=>[]
 | n+1,l=>if l=[] then [] else qr (dec l).1++quoteF n (l.drop (dec l).2)
def quote (l:Bs):Bs:=34#8::(quoteF l.length l++[34#8])
def putL (pv:JT→Bs):List JT→Bs
 | []=>[]
 | [x]=>pv x
 | x::r=>pv x++44#8::putL pv r
def putO (pv:JT→Bs):List Bs→List JT→Bs
 | s::_,[x]=>quote s++58#8::pv x
 | s::ns,x::r=>quote s++58#8::(pv x++44#8::putO pv ns r)
 | _,_=>[]
def put1 (pl:List JT→Bs) (po:List Bs→List JT→Bs) (v:JT):Bs :=
 if v.k=0#8 then [110#8,117#8,108#8,108#8] else if v.k=1#8 then [102#8,97#8,108#8,115#8,101#8] else if v.k=2#8 then [116#8,114#8,117#8,101#8]
 else if v.k=3#8 then dig v.n.toNat else if v.k=4#8 then quote v.s else if v.k=5#8 then 91#8::(pl v.l++[93#8]) else 123#8::(po v.ns v.l++[125#8])
def put:Nat→JT→Bs
 | 0=>put1 (fun _=>[]) (fun _ _=>[])
 | d+1=>put1 (putL (put d)) (putO (put d))
def leaf (v:JT):Prop:=v.l=[]∧v.ns=[]∧(v.k=3#8∨v.n=0#64)∧(v.k=4#8∨v.s=[])∧v.k.toNat≤4∧Utf v.s
def norm:Nat→JT→Prop
 | 0,v=>leaf v
 | d+1,v=>leaf v∨(v.n=0#64∧v.s=[]∧(∀ x∈v.l,norm d x)∧((v.k=5#8∧v.ns=[])∨(v.k=6#8∧v.ns.length=v.l.length∧v.ns.Nodup∧∀ s∈v.ns,Utf s)))
end Js
end
end Go.Proofs.YtnehmcpkeamghaaDoor
