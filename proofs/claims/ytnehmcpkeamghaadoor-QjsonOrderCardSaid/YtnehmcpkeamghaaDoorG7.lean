/-
  Texts of this claim, part 7: EoF, EoG, EoH, EoI, QjC, QjD, QjE, QjF, QjG, QjH, QkO. No condition of its own.
-/
import Derived.Test.YtnehmcpkeamghaaDoorG6
namespace Go.Proofs.YtnehmcpkeamghaaDoor
set_option linter.unusedVariables false
section
namespace Sx
open Go.RowKit Sha Vi Ev

theorem eqC_numsM' {q:List Nat} {g:Nat→Nat} {l:List (BitVec 64)} {j:Nat}:eqC q (SC.mp g (numsF l j)) (numsF l j) True :=
 eqC_nums (f:=fun j=>SC.mp g (numsF l j)) (fun j x h=>by unfold numsF; rw [h]; rfl) j
theorem mskN_zero (P:List (BitVec 64)):mskN 0 P=P:=by simp [mskN]
theorem app_nums {P:List (BitVec 64)} {v:BitVec 64} {n:Nat} (hn:P.length=n) {f g:Nat→SC} (hf:∀ j x,P[j]?=some x→f j=.w64 x) (hg:g 0=.w64 v) (j:Nat) (x:BitVec 64) (h:(P++[v])[j]?=some x):appF f 0 (scale n (0+1)) (scale 1 (0+1)) g j=.w64 x:=by
 have e1:scale n (0+1)=n:=by rw [scale_eq,Nat.zero_add,Nat.mul_one]
 have e2:scale 1 (0+1)=1:=by rw [scale_eq]
 unfold appF
 rw [e1,e2]
 by_cases hj:j<n
 ·rw [if_pos hj,Nat.add_zero]
  rw [List.getElem?_append_left (by omega)] at h
  exact hf j x h
 ·rw [List.getElem?_append_right (by omega)] at h
  have hj0:j-P.length=0:=by
   rcases Nat.eq_zero_or_pos (j-P.length) with h1|h1
   ·exact h1
   ·rw [List.getElem?_eq_none (by simp; omega)] at h; cases h
  rw [hj0] at h
  injection h with h
  subst h
  rw [if_neg hj,if_pos (by omega),show j-n=0 by omega,hg]
theorem new_nums {v:BitVec 64} {g:Nat→SC} (hg:g 0=.w64 v) (j:Nat) (x:BitVec 64) (h:[v][j]?=some x):newF (scale 1 (0+1)) g j=.w64 x:=by
 have e2:scale 1 (0+1)=1:=by rw [scale_eq]
 cases j with
 | zero=>simp at h; subst h; unfold newF; rw [e2,if_pos (by decide),hg]
 | succ j=>simp at h
theorem padE_step {P:List (BitVec 64)} {m:Nat} (h:P.length<m):padE P (m-P.length)=padE (P++[BitVec.ofNat 64 P.length*7#64]) (m-(P++[BitVec.ofNat 64 P.length*7#64]).length):=by
 obtain ⟨k,hk⟩:∃ k,m-P.length=k+1:=⟨m-P.length-1,by omega⟩
 rw [hk,padE,List.length_append,List.length_singleton,show m-(P.length+1)=k by omega]
theorem padE_done {P:List (BitVec 64)} {m:Nat} (h:m≤P.length):padE P (m-P.length)=P:=by
 rw [show m-P.length=0 by omega]; rfl
theorem msk_step {i:Nat} {P:List (BitVec 64)} {y:BitVec 64} (hy:P[i]?=some y) (j:Nat) (x:BitVec 64) (h:(mskN (i+1) P)[j]?=some x):upd (numsF (mskN i P)) i (.w64 (mk62 y)) j=.w64 x:=by
 have hj:j<P.length:=by
  have:=(List.getElem?_eq_some_iff.1 h).1
  rwa [mskN_len] at this
 have hp:P[j]?=some P[j]:=List.getElem?_eq_getElem hj
 rw [mskN_get hp] at h
 injection h with h
 unfold upd
 by_cases hji:j=i
 ·subst hji
  rw [if_pos rfl]
  rw [hp] at hy
  injection hy with hy
  rw [if_pos (by omega)] at h
  rw [← h,← hy]
 ·rw [if_neg hji]
  refine nums_get ?_
  rw [mskN_get hp]
  congr 1
  rw [← h]
  by_cases hlt:j<i
  ·rw [if_pos hlt,if_pos (by omega)]
  ·rw [if_neg hlt,if_neg (by omega)]
theorem take_fin {D:Bs} (j:Nat) (x:SC) (h:((D.take 20).map SC.w8)[j]?=some x):bytesF D.length (L D) j=x:=by
 rw [List.getElem?_map,Option.map_eq_some_iff] at h
 obtain ⟨b,hb,rfl⟩:=h
 exact bytes_get hb (by rw [List.length_take]; omega) D rfl (fun i hi=>by rw [L_take _ _ _ (by rw [List.length_take] at hi; omega)])
theorem mask_fin {P:List (BitVec 64)} {m:Nat} (j:Nat) (x:SC) (h:(((P.take m).map mk62).map SC.w64)[j]?=some x):numsF (mskN m P) j=x:=by
 rw [List.getElem?_map,Option.map_eq_some_iff] at h
 obtain ⟨b,hb,rfl⟩:=h
 rw [List.getElem?_map,Option.map_eq_some_iff] at hb
 obtain ⟨a,ha,rfl⟩:=hb
 rw [List.getElem?_take] at ha
 split at ha
 ·rename_i hj
  refine nums_get ?_
  rw [mskN_get ha,if_pos hj]
 ·cases ha
set_option maxRecDepth 20000 in
set_option maxHeartbeats 16000000 in
theorem fn_efit11 {W:World} {ms:List Nat} {x:EvC} {e:Ev} (h:EvAt W ms x e) (hn:e.N.length≤1000) (hd:e.D.length≤1000) (hz:0<e.N.length) (hy:0<e.D.length) (k:BitVec 8):FnR Tryd.prog tds 11 1 [[.past W ms]] [.agg (evS e x),.c (.w8 k)] (fun _=>True)
  (fun y hs=>∃ W' ms' x',Later W ms W' ms'∧EvAt W' ms' x' (fitE e k)∧y=.a (.agg (evS (fitE e k) x'))∧hs=[[.past W' ms']]):=by
 refine fn_of_bodyW tds_ok follows_ Tryd.func11 rfl (t:=.a (.agg (evS e x))::.a (.c (.w8 k))::anys (Tryd.f11.ntmps-2)) rfl (fun w r0 hr _=>?_)
 obtain ⟨x0,rfl⟩:=List.length_eq_one_iff.1 hr
 have hm8:=many_le (kindE k)
 (repeat show _∧_;first|refine yr ?_|refine yt ?_|refine yf ?_|refine yo ?_)
 refine call_same (fn_ecl11 h (by omega) (by omega) hz hy) [0] rfl (by (repeat first|exact trivial|refine ent1 ?_)) (by (repeat first|exact trivial|refine ent1 ?_)) (fun _ _=>trivial) ?_
 rintro y hs' ⟨c1,c2,hc1,hc2,rfl,rfl⟩
 (repeat show _∧_;first|refine yr ?_|refine yt ?_|refine yf ?_|refine yo ?_)
 refine call_same (fn_many (kindE k) (kindE_ok k)) [] rfl (by (repeat first|exact trivial|refine ent1 ?_)) trivial (fun _ _=>trivial) ?_
 rintro y hs' ⟨rfl,rfl⟩
 (repeat show _∧_;first|refine yr ?_|refine yt ?_|refine yf ?_|refine yo ?_)
 refine .inl ⟨List (BitVec 64) × Nat,fun (P,c)=>⟨[.any,.a (.c (.w8 (k))),.a (.c (.p 1 0 0)),.any,.a (.c (.p 2 0 0)),.a (.c (.int .i64 (↑(evNames (kindE k)).length))),.a (.c (.bool ((evData (kindE k))))),.any,.any,.any,.any,.any,.any,.any,.any,.any,.any,.any,.any,.any,.any,.any,.any,.any,.any,.any,.any,.any,.any,.any,.any,.any,.any,.any,.any,.any,.any,.any,.any,.any,.any,.any,.any,.any,.any,.any,.any,.any,.any,.any,.any,.any,.any,.any,.any,.any,.any,.any,.any,.any,.any,.any,.any,.any,.any,.any,.any,.any,.any,.any],[[.past W ms],[.one (.w8 (kindE k)),.one (.w64 (e.t % 1125899906842625#64)),.one (.sl 4 0 0 P.length c),.one (.sl 3 0 0 e.D.length c2)],[.one (.w8 0),.one (.w64 0),.one (.slc none 0 0),.one (.slc none 0 0)],lsC e.D c2,[.row c (numsF P)]]⟩,fun (P,c)=>P.length≤c∧P.length≤1100∧padE P ((evNames (kindE k)).length-P.length)=padE e.N ((evNames (kindE k)).length-e.N.length),fun (P,c)=>(evNames (kindE k)).length-P.length,⟨(e.N,c1),[0,1,2,4,3],⟨⟨rfl,rfl,rfl⟩,?_⟩,hc1,by omega,rfl⟩,fun (P,c) ⟨h1,h2,h3⟩=>?_⟩
 ·(repeat first|exact trivial|refine ent1 ?_)
  exact ⟨fun j hj=>eqC_numsM',by (repeat first|exact trivial|refine ent1 ?_)⟩
 refine And.intro (fun hlt=>?_) (fun hge=>?_)
 ·have hlt:P.length<(evNames (kindE k)).length:=by have:(P.length:Int)<((evNames (kindE k)).length:Int):=of_decide_eq_true hlt; omega
  (repeat show _∧_;first|refine yr ?_|refine yt ?_|refine yf ?_|refine yo ?_)
  refine And.intro ⟨h1,by first|omega|(simp only [scale_eq]; omega),show (P.length+1)*8≤140737488355328 by omega⟩ ?_
  intro c' hc'
  (repeat show _∧_;first|refine yr ?_|refine yt ?_|refine yf ?_|refine yo ?_)
  refine ⟨(P++[BitVec.ofNat 64 P.length*7#64],c'),[0,1,2,3,6],⟨⟨rfl,rfl,rfl⟩,?_⟩,⟨by rw [List.length_append,List.length_singleton]; exact hc',by rw [List.length_append,List.length_singleton]; omega,by rw [← h3]; exact (padE_step hlt).symm⟩,by dsimp only; rw [List.length_append,List.length_singleton]; omega⟩
  (repeat first|exact trivial|refine ent1 ?_)
  refine ⟨by rw [List.length_append,List.length_singleton],?_⟩
  (repeat first|exact trivial|refine ent1 ?_)
  exact ⟨fun j hj=>eqC_nums (app_nums rfl (fun j x h=>nums_get h) (congrArg SC.w64 (by rw [BitVec.ofInt_natCast]))) j,by (repeat first|exact trivial|refine ent1 ?_)⟩
 ·have hge:(evNames (kindE k)).length≤P.length:=by have:¬ (P.length:Int)<((evNames (kindE k)).length:Int):=of_decide_eq_false hge; omega
  rw [padE_done hge] at h3
  have hT:((padE e.N ((evNames (kindE k)).length-e.N.length)).take (evNames (kindE k)).length).map mk62=(P.take (evNames (kindE k)).length).map mk62:=by rw [← h3]
  have hTl:((P.take (evNames (kindE k)).length).map mk62).length=(evNames (kindE k)).length:=by simp only [List.length_map,List.length_take]; omega
  refine And.intro (show (0:Int)≤0∧(0:Int)≤((evNames (kindE k)).length:Int)∧((evNames (kindE k)).length:Int)≤(c:Int) by omega) ?_
  refine frcN_of (m:=0) rfl ?_
  refine frcN_of (m:=(evNames (kindE k)).length) (by omega) ?_
  refine frcN_of (m:=0) (by split <;> omega) ?_
  refine frcN_of (m:=(evNames (kindE k)).length) (by omega) ?_
  refine frcN_of (m:=c) (by omega) ?_
  (repeat show _∧_;first|refine yr ?_|refine yt ?_|refine yf ?_|refine yo ?_)
  refine .inl ⟨Nat,fun i=>⟨[.any,.a (.c (.w8 (k))),.a (.c (.p 1 0 0)),.any,.a (.c (.p 2 0 0)),.a (.c (.int .i64 (↑(evNames (kindE k)).length))),.a (.c (.bool ((evData (kindE k))))),.any,.any,.any,.any,.any,.any,.any,.any,.any,.any,.any,.any,.any,.any,.any,.any,.any,.any,.any,.any,.any,.any,.any,.any,.any,.any,.any,.any,.any,.any,.any,.any,.any,.any,.any,.any,.any,.any,.any,.a (.c (.int .i64 (↑(evNames (kindE k)).length))),.a (.c (.int .i64 (↑i))),.any,.any,.any,.any,.any,.any,.any,.any,.any,.any,.any,.any,.any,.any,.any,.any,.any,.any,.any,.any,.any,.any],[[.past W ms],[.one (.w8 (kindE k)),.one (.w64 (e.t % 1125899906842625#64)),.one (.sl 4 0 0 (evNames (kindE k)).length c),.one (.sl 3 0 0 e.D.length c2)],[.one (.w8 0),.one (.w64 0),.one (.slc none 0 0),.one (.slc none 0 0)],lsC e.D c2,[.row c (numsF (mskN i P))]]⟩,fun i=>i≤(evNames (kindE k)).length,fun i=>(evNames (kindE k)).length-i,⟨0,[0,1,2,3,4],⟨⟨rfl,rfl,rfl⟩,?_⟩,Nat.zero_le _⟩,fun i hi=>And.intro (fun hlt=>?_) (fun hge2=>?_)⟩
  ·(repeat first|exact trivial|refine ent1 ?_)
   exact ⟨fun j hj=>by rw [mskN_zero]; exact eqC_numsS,by (repeat first|exact trivial|refine ent1 ?_)⟩
  ·have hlt:i<(evNames (kindE k)).length:=by have:(i:Int)<((evNames (kindE k)).length:Int):=of_decide_eq_true hlt; omega
   obtain ⟨y,hy⟩:∃ y,P[i]?=some y:=⟨_,List.getElem?_eq_getElem (by omega)⟩
   have hmy:(mskN i P)[(i:Int).toNat+0]?=some y:=by rw [show (i:Int).toNat+0=i by omega,mskN_get hy,if_neg (by omega)]
   refine And.intro (show (0:Int)≤(i:Int)∧(i:Int)<((evNames (kindE k)).length:Int) by omega) ?_
   refine And.intro (show (i:Int).toNat+0<c by omega) ?_
   refine frc_nums hmy ?_
   refine And.intro (show (0:Int)≤(i:Int)∧(i:Int)<((evNames (kindE k)).length:Int) by omega) ?_
   refine And.intro (show (i:Int).toNat+0<c by omega) ?_
   (repeat show _∧_;first|refine yr ?_|refine yt ?_|refine yf ?_|refine yo ?_)
   refine ⟨i+1,[0,1,2,3,4],⟨⟨rfl,rfl,rfl⟩,?_⟩,by omega,by dsimp only; omega⟩
   (repeat first|exact trivial|refine ent1 ?_)
   exact ⟨fun j hj=>eqC_nums (fun j x h=>by rw [show (i:Int).toNat+0=i by omega]; exact msk_step hy j x h) j,by (repeat first|exact trivial|refine ent1 ?_)⟩
  ·obtain rfl:i=(evNames (kindE k)).length:=by have:¬ (i:Int)<((evNames (kindE k)).length:Int):=of_decide_eq_false hge2; omega
   (repeat show _∧_;first|refine yr ?_|refine yt ?_|refine yf ?_|refine yo ?_)
   cases hdt:evData (kindE k)
   ·refine And.intro (fun _=>?_) (fun h=>absurd h (by decide))
    (repeat show _∧_;first|refine yr ?_|refine yt ?_|refine yf ?_|refine yo ?_)
    have hDD:(if evData (kindE k)=true then e.D.take 20 else [])=[]:=by rw [hdt]; rfl
    refine finW_frz [0] rfl (Nat.zero_lt_one) cx0_m rfl (fun W' ms' α hL hI=>?_)
    have hfe:fitE e k=⟨kindE k,e.t % 1125899906842625#64,((padE e.N ((evNames (kindE k)).length-e.N.length)).take (evNames (kindE k)).length).map mk62,if evData (kindE k)=true then e.D.take 20 else []⟩:=rfl
    refine ⟨.a (.agg (evS (fitE e k) ⟨some ((α 4).add (0+0)),(evNames (kindE k)).length,c,none,0,0⟩)),[],⟨⟨rfl,rfl,rfl⟩,?_⟩,W',ms',⟨some ((α 4).add (0+0)),(evNames (kindE k)).length,c,none,0,0⟩,hL,⟨(by rw [show (fitE e k).N=_ from hT]; exact SlAt.frz (F:=fun j=>!memB j [0]) (hI 4 rfl) rfl (show (evNames (kindE k)).length≤c by omega) (show (evNames (kindE k)).length≤9223372036854775807 by omega) (by decide) (by rw [List.length_map,hTl,Nat.mul_one]) mask_fin (rz_w64 _)),(by rw [show (fitE e k).D=[] from hDD]; exact SlAt.nul)⟩,rfl,rfl⟩
    (repeat first|exact trivial|refine ent1 ?_)
   ·refine And.intro (fun h=>absurd h (by decide)) (fun _=>?_)
    have hmin:(if (20:Int)<(e.D.length:Int) then (20:Int) else (e.D.length:Int))=((e.D.take 20).length:Int):=by rw [List.length_take]; split <;> omega
    have hmle:(e.D.take 20).length≤c2:=by rw [List.length_take]; omega
    refine And.intro (show (0:Int)≤0∧(0:Int)≤(if (20:Int)<(e.D.length:Int) then (20:Int) else (e.D.length:Int))∧(if (20:Int)<(e.D.length:Int) then (20:Int) else (e.D.length:Int))≤(c2:Int) by rw [hmin]; omega) ?_
    refine frcN_of (m:=0) rfl ?_
    refine frcN_of (m:=(e.D.take 20).length) (by rw [hmin]; rfl) ?_
    refine frcN_of (m:=0) (by split <;> omega) ?_
    refine frcN_of (m:=(e.D.take 20).length) (by omega) ?_
    refine frcN_of (m:=c2) (by omega) ?_
    (repeat show _∧_;first|refine yr ?_|refine yt ?_|refine yf ?_|refine yo ?_)
    have hDD:(if evData (kindE k)=true then e.D.take 20 else [])=e.D.take 20:=by rw [hdt]; rfl
    refine finW_frz [0] rfl (Nat.zero_lt_one) cx0_m rfl (fun W' ms' α hL hI=>?_)
    have hfe:fitE e k=⟨kindE k,e.t % 1125899906842625#64,((padE e.N ((evNames (kindE k)).length-e.N.length)).take (evNames (kindE k)).length).map mk62,if evData (kindE k)=true then e.D.take 20 else []⟩:=rfl
    refine ⟨.a (.agg (evS (fitE e k) ⟨some ((α 4).add (0+0)),(evNames (kindE k)).length,c,some ((α 3).add (0+0)),(e.D.take 20).length,c2⟩)),[],⟨⟨rfl,rfl,rfl⟩,?_⟩,W',ms',⟨some ((α 4).add (0+0)),(evNames (kindE k)).length,c,some ((α 3).add (0+0)),(e.D.take 20).length,c2⟩,hL,⟨(by rw [show (fitE e k).N=_ from hT]; exact SlAt.frz (F:=fun j=>!memB j [0]) (hI 4 rfl) rfl (show (evNames (kindE k)).length≤c by omega) (show (evNames (kindE k)).length≤9223372036854775807 by omega) (by decide) (by rw [List.length_map,hTl,Nat.mul_one]) mask_fin (rz_w64 _)),(by rw [show (fitE e k).D=_ from hDD]; exact SlAt.frz (F:=fun j=>!memB j [0]) (hI 3 rfl) rfl (show (e.D.take 20).length≤c2 from hmle) (show (e.D.take 20).length≤9223372036854775807 by rw [List.length_take]; omega) (by decide) (by rw [List.length_map,Nat.mul_one]) take_fin (rz_w8 _))⟩,rfl,rfl⟩
    (repeat first|exact trivial|refine ent1 ?_)
set_option maxRecDepth 20000 in
set_option maxHeartbeats 16000000 in
theorem fn_efit10 {W:World} {ms:List Nat} {x:EvC} {e:Ev} (h:EvAt W ms x e) (hn:e.N.length≤1000) (hd:e.D.length≤1000) (hz:0<e.N.length) (hy:e.D.length=0) (k:BitVec 8):FnR Tryd.prog tds 11 1 [[.past W ms]] [.agg (evS e x),.c (.w8 k)] (fun _=>True)
  (fun y hs=>∃ W' ms' x',Later W ms W' ms'∧EvAt W' ms' x' (fitE e k)∧y=.a (.agg (evS (fitE e k) x'))∧hs=[[.past W' ms']]):=by
 refine fn_of_bodyW tds_ok follows_ Tryd.func11 rfl (t:=.a (.agg (evS e x))::.a (.c (.w8 k))::anys (Tryd.f11.ntmps-2)) rfl (fun w r0 hr _=>?_)
 obtain ⟨x0,rfl⟩:=List.length_eq_one_iff.1 hr
 have hm8:=many_le (kindE k)
 (repeat show _∧_;first|refine yr ?_|refine yt ?_|refine yf ?_|refine yo ?_)
 refine call_same (fn_ecl10 h (by omega) (by omega) hz hy) [0] rfl (by (repeat first|exact trivial|refine ent1 ?_)) (by (repeat first|exact trivial|refine ent1 ?_)) (fun _ _=>trivial) ?_
 rintro y hs' ⟨c1,hc1,rfl,rfl⟩
 (repeat show _∧_;first|refine yr ?_|refine yt ?_|refine yf ?_|refine yo ?_)
 refine call_same (fn_many (kindE k) (kindE_ok k)) [] rfl (by (repeat first|exact trivial|refine ent1 ?_)) trivial (fun _ _=>trivial) ?_
 rintro y hs' ⟨rfl,rfl⟩
 (repeat show _∧_;first|refine yr ?_|refine yt ?_|refine yf ?_|refine yo ?_)
 refine .inl ⟨List (BitVec 64) × Nat,fun (P,c)=>⟨[.any,.a (.c (.w8 (k))),.a (.c (.p 1 0 0)),.any,.a (.c (.p 2 0 0)),.a (.c (.int .i64 (↑(evNames (kindE k)).length))),.a (.c (.bool ((evData (kindE k))))),.any,.any,.any,.any,.any,.any,.any,.any,.any,.any,.any,.any,.any,.any,.any,.any,.any,.any,.any,.any,.any,.any,.any,.any,.any,.any,.any,.any,.any,.any,.any,.any,.any,.any,.any,.any,.any,.any,.any,.any,.any,.any,.any,.any,.any,.any,.any,.any,.any,.any,.any,.any,.any,.any,.any,.any,.any,.any,.any,.any,.any,.any,.any],[[.past W ms],[.one (.w8 (kindE k)),.one (.w64 (e.t % 1125899906842625#64)),.one (.sl 3 0 0 P.length c),.one (.slc none 0 0)],[.one (.w8 0),.one (.w64 0),.one (.slc none 0 0),.one (.slc none 0 0)],[.row c (numsF P)]]⟩,fun (P,c)=>P.length≤c∧P.length≤1100∧padE P ((evNames (kindE k)).length-P.length)=padE e.N ((evNames (kindE k)).length-e.N.length),fun (P,c)=>(evNames (kindE k)).length-P.length,⟨(e.N,c1),[0,1,2,3],⟨⟨rfl,rfl,rfl⟩,?_⟩,hc1,by omega,rfl⟩,fun (P,c) ⟨h1,h2,h3⟩=>?_⟩
 ·(repeat first|exact trivial|refine ent1 ?_)
  exact ⟨fun j hj=>eqC_numsM',by (repeat first|exact trivial|refine ent1 ?_)⟩
 refine And.intro (fun hlt=>?_) (fun hge=>?_)
 ·have hlt:P.length<(evNames (kindE k)).length:=by have:(P.length:Int)<((evNames (kindE k)).length:Int):=of_decide_eq_true hlt; omega
  (repeat show _∧_;first|refine yr ?_|refine yt ?_|refine yf ?_|refine yo ?_)
  refine And.intro ⟨h1,by first|omega|(simp only [scale_eq]; omega),show (P.length+1)*8≤140737488355328 by omega⟩ ?_
  intro c' hc'
  (repeat show _∧_;first|refine yr ?_|refine yt ?_|refine yf ?_|refine yo ?_)
  refine ⟨(P++[BitVec.ofNat 64 P.length*7#64],c'),[0,1,2,5],⟨⟨rfl,rfl,rfl⟩,?_⟩,⟨by rw [List.length_append,List.length_singleton]; exact hc',by rw [List.length_append,List.length_singleton]; omega,by rw [← h3]; exact (padE_step hlt).symm⟩,by dsimp only; rw [List.length_append,List.length_singleton]; omega⟩
  (repeat first|exact trivial|refine ent1 ?_)
  refine ⟨by rw [List.length_append,List.length_singleton],?_⟩
  (repeat first|exact trivial|refine ent1 ?_)
  exact ⟨fun j hj=>eqC_nums (app_nums rfl (fun j x h=>nums_get h) (congrArg SC.w64 (by rw [BitVec.ofInt_natCast]))) j,by (repeat first|exact trivial|refine ent1 ?_)⟩
 ·have hge:(evNames (kindE k)).length≤P.length:=by have:¬ (P.length:Int)<((evNames (kindE k)).length:Int):=of_decide_eq_false hge; omega
  rw [padE_done hge] at h3
  have hT:((padE e.N ((evNames (kindE k)).length-e.N.length)).take (evNames (kindE k)).length).map mk62=(P.take (evNames (kindE k)).length).map mk62:=by rw [← h3]
  have hTl:((P.take (evNames (kindE k)).length).map mk62).length=(evNames (kindE k)).length:=by simp only [List.length_map,List.length_take]; omega
  refine And.intro (show (0:Int)≤0∧(0:Int)≤((evNames (kindE k)).length:Int)∧((evNames (kindE k)).length:Int)≤(c:Int) by omega) ?_
  refine frcN_of (m:=0) rfl ?_
  refine frcN_of (m:=(evNames (kindE k)).length) (by omega) ?_
  refine frcN_of (m:=0) (by split <;> omega) ?_
  refine frcN_of (m:=(evNames (kindE k)).length) (by omega) ?_
  refine frcN_of (m:=c) (by omega) ?_
  (repeat show _∧_;first|refine yr ?_|refine yt ?_|refine yf ?_|refine yo ?_)
  refine .inl ⟨Nat,fun i=>⟨[.any,.a (.c (.w8 (k))),.a (.c (.p 1 0 0)),.any,.a (.c (.p 2 0 0)),.a (.c (.int .i64 (↑(evNames (kindE k)).length))),.a (.c (.bool ((evData (kindE k))))),.any,.any,.any,.any,.any,.any,.any,.any,.any,.any,.any,.any,.any,.any,.any,.any,.any,.any,.any,.any,.any,.any,.any,.any,.any,.any,.any,.any,.any,.any,.any,.any,.any,.any,.any,.any,.any,.any,.any,.a (.c (.int .i64 (↑(evNames (kindE k)).length))),.a (.c (.int .i64 (↑i))),.any,.any,.any,.any,.any,.any,.any,.any,.any,.any,.any,.any,.any,.any,.any,.any,.any,.any,.any,.any,.any,.any],[[.past W ms],[.one (.w8 (kindE k)),.one (.w64 (e.t % 1125899906842625#64)),.one (.sl 3 0 0 (evNames (kindE k)).length c),.one (.slc none 0 0)],[.one (.w8 0),.one (.w64 0),.one (.slc none 0 0),.one (.slc none 0 0)],[.row c (numsF (mskN i P))]]⟩,fun i=>i≤(evNames (kindE k)).length,fun i=>(evNames (kindE k)).length-i,⟨0,[0,1,2,3],⟨⟨rfl,rfl,rfl⟩,?_⟩,Nat.zero_le _⟩,fun i hi=>And.intro (fun hlt=>?_) (fun hge2=>?_)⟩
  ·(repeat first|exact trivial|refine ent1 ?_)
   exact ⟨fun j hj=>by rw [mskN_zero]; exact eqC_numsS,by (repeat first|exact trivial|refine ent1 ?_)⟩
  ·have hlt:i<(evNames (kindE k)).length:=by have:(i:Int)<((evNames (kindE k)).length:Int):=of_decide_eq_true hlt; omega
   obtain ⟨y,hy⟩:∃ y,P[i]?=some y:=⟨_,List.getElem?_eq_getElem (by omega)⟩
   have hmy:(mskN i P)[(i:Int).toNat+0]?=some y:=by rw [show (i:Int).toNat+0=i by omega,mskN_get hy,if_neg (by omega)]
   refine And.intro (show (0:Int)≤(i:Int)∧(i:Int)<((evNames (kindE k)).length:Int) by omega) ?_
   refine And.intro (show (i:Int).toNat+0<c by omega) ?_
   refine frc_nums hmy ?_
   refine And.intro (show (0:Int)≤(i:Int)∧(i:Int)<((evNames (kindE k)).length:Int) by omega) ?_
   refine And.intro (show (i:Int).toNat+0<c by omega) ?_
   (repeat show _∧_;first|refine yr ?_|refine yt ?_|refine yf ?_|refine yo ?_)
   refine ⟨i+1,[0,1,2,3],⟨⟨rfl,rfl,rfl⟩,?_⟩,by omega,by dsimp only; omega⟩
   (repeat first|exact trivial|refine ent1 ?_)
   exact ⟨fun j hj=>eqC_nums (fun j x h=>by rw [show (i:Int).toNat+0=i by omega]; exact msk_step hy j x h) j,by (repeat first|exact trivial|refine ent1 ?_)⟩
  ·obtain rfl:i=(evNames (kindE k)).length:=by have:¬ (i:Int)<((evNames (kindE k)).length:Int):=of_decide_eq_false hge2; omega
   (repeat show _∧_;first|refine yr ?_|refine yt ?_|refine yf ?_|refine yo ?_)
   cases hdt:evData (kindE k)
   ·refine And.intro (fun _=>?_) (fun h=>absurd h (by decide))
    (repeat show _∧_;first|refine yr ?_|refine yt ?_|refine yf ?_|refine yo ?_)
    have hDD:(if evData (kindE k)=true then e.D.take 20 else [])=[]:=by rw [hdt]; rfl
    refine finW_frz [0] rfl (Nat.zero_lt_one) cx0_m rfl (fun W' ms' α hL hI=>?_)
    have hfe:fitE e k=⟨kindE k,e.t % 1125899906842625#64,((padE e.N ((evNames (kindE k)).length-e.N.length)).take (evNames (kindE k)).length).map mk62,if evData (kindE k)=true then e.D.take 20 else []⟩:=rfl
    refine ⟨.a (.agg (evS (fitE e k) ⟨some ((α 3).add (0+0)),(evNames (kindE k)).length,c,none,0,0⟩)),[],⟨⟨rfl,rfl,rfl⟩,?_⟩,W',ms',⟨some ((α 3).add (0+0)),(evNames (kindE k)).length,c,none,0,0⟩,hL,⟨(by rw [show (fitE e k).N=_ from hT]; exact SlAt.frz (F:=fun j=>!memB j [0]) (hI 3 rfl) rfl (show (evNames (kindE k)).length≤c by omega) (show (evNames (kindE k)).length≤9223372036854775807 by omega) (by decide) (by rw [List.length_map,hTl,Nat.mul_one]) mask_fin (rz_w64 _)),(by rw [show (fitE e k).D=[] from hDD]; exact SlAt.nul)⟩,rfl,rfl⟩
    (repeat first|exact trivial|refine ent1 ?_)
   ·refine And.intro (fun h=>absurd h (by decide)) (fun _=>?_)
    (repeat show _∧_;first|refine yr ?_|refine yt ?_|refine yf ?_|refine yo ?_)
    have hDD:(if evData (kindE k)=true then e.D.take 20 else [])=[]:=by rw [hdt,List.eq_nil_of_length_eq_zero hy]; rfl
    refine finW_frz [0] rfl (Nat.zero_lt_one) cx0_m rfl (fun W' ms' α hL hI=>?_)
    have hfe:fitE e k=⟨kindE k,e.t % 1125899906842625#64,((padE e.N ((evNames (kindE k)).length-e.N.length)).take (evNames (kindE k)).length).map mk62,if evData (kindE k)=true then e.D.take 20 else []⟩:=rfl
    refine ⟨.a (.agg (evS (fitE e k) ⟨some ((α 3).add (0+0)),(evNames (kindE k)).length,c,none,0,0⟩)),[],⟨⟨rfl,rfl,rfl⟩,?_⟩,W',ms',⟨some ((α 3).add (0+0)),(evNames (kindE k)).length,c,none,0,0⟩,hL,⟨(by rw [show (fitE e k).N=_ from hT]; exact SlAt.frz (F:=fun j=>!memB j [0]) (hI 3 rfl) rfl (show (evNames (kindE k)).length≤c by omega) (show (evNames (kindE k)).length≤9223372036854775807 by omega) (by decide) (by rw [List.length_map,hTl,Nat.mul_one]) mask_fin (rz_w64 _)),(by rw [show (fitE e k).D=[] from hDD]; exact SlAt.nul)⟩,rfl,rfl⟩
    (repeat first|exact trivial|refine ent1 ?_)
set_option maxRecDepth 20000 in
set_option maxHeartbeats 16000000 in
theorem fn_efit01 {W:World} {ms:List Nat} {x:EvC} {e:Ev} (h:EvAt W ms x e) (hn:e.N.length≤1000) (hd:e.D.length≤1000) (hz:e.N.length=0) (hy:0<e.D.length) (k:BitVec 8):FnR Tryd.prog tds 11 1 [[.past W ms]] [.agg (evS e x),.c (.w8 k)] (fun _=>True)
  (fun y hs=>∃ W' ms' x',Later W ms W' ms'∧EvAt W' ms' x' (fitE e k)∧y=.a (.agg (evS (fitE e k) x'))∧hs=[[.past W' ms']]):=by
 refine fn_of_bodyW tds_ok follows_ Tryd.func11 rfl (t:=.a (.agg (evS e x))::.a (.c (.w8 k))::anys (Tryd.f11.ntmps-2)) rfl (fun w r0 hr _=>?_)
 obtain ⟨x0,rfl⟩:=List.length_eq_one_iff.1 hr
 have hm8:=many_le (kindE k)
 (repeat show _∧_;first|refine yr ?_|refine yt ?_|refine yf ?_|refine yo ?_)
 refine call_same (fn_ecl01 h (by omega) (by omega) hz hy) [0] rfl (by (repeat first|exact trivial|refine ent1 ?_)) (by (repeat first|exact trivial|refine ent1 ?_)) (fun _ _=>trivial) ?_
 rintro y hs' ⟨c2,hc2,rfl,rfl⟩
 (repeat show _∧_;first|refine yr ?_|refine yt ?_|refine yf ?_|refine yo ?_)
 refine call_same (fn_many (kindE k) (kindE_ok k)) [] rfl (by (repeat first|exact trivial|refine ent1 ?_)) trivial (fun _ _=>trivial) ?_
 rintro y hs' ⟨rfl,rfl⟩
 (repeat show _∧_;first|refine yr ?_|refine yt ?_|refine yf ?_|refine yo ?_)
 refine .inl ⟨Option (List (BitVec 64) × Nat),fun x=>match x with
  | none=>⟨[.any,.a (.c (.w8 (k))),.a (.c (.p 1 0 0)),.any,.a (.c (.p 2 0 0)),.a (.c (.int .i64 (↑(evNames (kindE k)).length))),.a (.c (.bool ((evData (kindE k))))),.any,.any,.any,.any,.any,.any,.any,.any,.any,.any,.any,.any,.any,.any,.any,.any,.any,.any,.any,.any,.any,.any,.any,.any,.any,.any,.any,.any,.any,.any,.any,.any,.any,.any,.any,.any,.any,.any,.any,.any,.any,.any,.any,.any,.any,.any,.any,.any,.any,.any,.any,.any,.any,.any,.any,.any,.any,.any,.any,.any,.any,.any,.any],[[.past W ms],[.one (.w8 (kindE k)),.one (.w64 (e.t % 1125899906842625#64)),.one (.slc none 0 0),.one (.sl 3 0 0 e.D.length c2)],[.one (.w8 0),.one (.w64 0),.one (.slc none 0 0),.one (.slc none 0 0)],lsC e.D c2]⟩
  | some (P,c)=>⟨[.any,.a (.c (.w8 (k))),.a (.c (.p 1 0 0)),.any,.a (.c (.p 2 0 0)),.a (.c (.int .i64 (↑(evNames (kindE k)).length))),.a (.c (.bool ((evData (kindE k))))),.any,.any,.any,.any,.any,.any,.any,.any,.any,.any,.any,.any,.any,.any,.any,.any,.any,.any,.any,.any,.any,.any,.any,.any,.any,.any,.any,.any,.any,.any,.any,.any,.any,.any,.any,.any,.any,.any,.any,.any,.any,.any,.any,.any,.any,.any,.any,.any,.any,.any,.any,.any,.any,.any,.any,.any,.any,.any,.any,.any,.any,.any,.any],[[.past W ms],[.one (.w8 (kindE k)),.one (.w64 (e.t % 1125899906842625#64)),.one (.sl 4 0 0 P.length c),.one (.sl 3 0 0 e.D.length c2)],[.one (.w8 0),.one (.w64 0),.one (.slc none 0 0),.one (.slc none 0 0)],lsC e.D c2,[.row c (numsF P)]]⟩,
  fun x=>match x with
  | none=>True
  | some (P,c)=>P.length≤c∧P.length≤1100∧padE P ((evNames (kindE k)).length-P.length)=padE e.N ((evNames (kindE k)).length-e.N.length),
  fun x=>match x with
  | none=>(evNames (kindE k)).length+1
  | some (P,c)=>(evNames (kindE k)).length-P.length,⟨none,[0,1,2,3],⟨⟨rfl,rfl,rfl⟩,by (repeat first|exact trivial|refine ent1 ?_)⟩,trivial⟩,fun x hx=>?_⟩
 have hN0:e.N=[]:=List.eq_nil_of_length_eq_zero hz
 rcases x with _|⟨P,c⟩
 ·refine And.intro (fun hlt=>?_) (fun hge=>?_)
  ·have hlt:0<(evNames (kindE k)).length:=by have:(0:Int)<((evNames (kindE k)).length:Int):=of_decide_eq_true hlt; omega
   (repeat show _∧_;first|refine yr ?_|refine yt ?_|refine yf ?_|refine yo ?_)
   intro c' hc'
   (repeat show _∧_;first|refine yr ?_|refine yt ?_|refine yf ?_|refine yo ?_)
   refine ⟨some ([BitVec.ofNat 64 0*7#64],c'),[0,1,2,3,5],⟨⟨rfl,rfl,rfl⟩,?_⟩,⟨hc',by decide,?_⟩,by dsimp only; simp only [List.length_singleton]; omega⟩
   ·(repeat first|exact trivial|refine ent1 ?_)
    exact ⟨fun j hj=>eqC_nums (new_nums rfl) j,by (repeat first|exact trivial|refine ent1 ?_)⟩
   ·have:=padE_step (P:=[]) (m:=(evNames (kindE k)).length) hlt
    rw [hN0]
    exact this.symm
  ·have hge:(evNames (kindE k)).length=0:=by have:¬ (0:Int)<((evNames (kindE k)).length:Int):=of_decide_eq_false hge; omega
   have hT:((padE e.N ((evNames (kindE k)).length-e.N.length)).take (evNames (kindE k)).length).map mk62=[]:=by rw [hge]; simp
   refine And.intro (show (0:Int)≤0∧(0:Int)≤((evNames (kindE k)).length:Int)∧((evNames (kindE k)).length:Int)≤((0:Nat):Int) by omega) ?_
   refine frcN_of (m:=0) rfl ?_
   refine frcN_of (m:=0) (by omega) ?_
   refine frcN_of (m:=0) rfl ?_
   refine frcN_of (m:=0) rfl ?_
   (repeat show _∧_;first|refine yr ?_|refine yt ?_|refine yf ?_|refine yo ?_)
   refine .inr ⟨1,?_⟩
   refine And.intro (fun h=>absurd h (by decide)) (fun _=>?_)
   cases hdt:evData (kindE k)
   ·refine And.intro (fun _=>?_) (fun h=>absurd h (by decide))
    (repeat show _∧_;first|refine yr ?_|refine yt ?_|refine yf ?_|refine yo ?_)
    have hDD:(if evData (kindE k)=true then e.D.take 20 else [])=[]:=by rw [hdt]; rfl
    refine finW_frz [0] rfl (Nat.zero_lt_one) cx0_m rfl (fun W' ms' α hL hI=>?_)
    have hfe:fitE e k=⟨kindE k,e.t % 1125899906842625#64,((padE e.N ((evNames (kindE k)).length-e.N.length)).take (evNames (kindE k)).length).map mk62,if evData (kindE k)=true then e.D.take 20 else []⟩:=rfl
    refine ⟨.a (.agg (evS (fitE e k) ⟨none,0,0,none,0,0⟩)),[],⟨⟨rfl,rfl,rfl⟩,?_⟩,W',ms',⟨none,0,0,none,0,0⟩,hL,⟨(by rw [show (fitE e k).N=[] from hT]; exact SlAt.nul),(by rw [show (fitE e k).D=[] from hDD]; exact SlAt.nul)⟩,rfl,rfl⟩
    (repeat first|exact trivial|refine ent1 ?_)
   ·refine And.intro (fun h=>absurd h (by decide)) (fun _=>?_)
    have hmin:(if (20:Int)<(e.D.length:Int) then (20:Int) else (e.D.length:Int))=((e.D.take 20).length:Int):=by rw [List.length_take]; split <;> omega
    have hmle:(e.D.take 20).length≤c2:=by rw [List.length_take]; omega
    refine And.intro (show (0:Int)≤0∧(0:Int)≤(if (20:Int)<(e.D.length:Int) then (20:Int) else (e.D.length:Int))∧(if (20:Int)<(e.D.length:Int) then (20:Int) else (e.D.length:Int))≤(c2:Int) by rw [hmin]; omega) ?_
    refine frcN_of (m:=0) rfl ?_
    refine frcN_of (m:=(e.D.take 20).length) (by rw [hmin]; rfl) ?_
    refine frcN_of (m:=0) (by split <;> omega) ?_
    refine frcN_of (m:=(e.D.take 20).length) (by omega) ?_
    refine frcN_of (m:=c2) (by omega) ?_
    (repeat show _∧_;first|refine yr ?_|refine yt ?_|refine yf ?_|refine yo ?_)
    have hDD:(if evData (kindE k)=true then e.D.take 20 else [])=e.D.take 20:=by rw [hdt]; rfl
    refine finW_frz [0] rfl (Nat.zero_lt_one) cx0_m rfl (fun W' ms' α hL hI=>?_)
    have hfe:fitE e k=⟨kindE k,e.t % 1125899906842625#64,((padE e.N ((evNames (kindE k)).length-e.N.length)).take (evNames (kindE k)).length).map mk62,if evData (kindE k)=true then e.D.take 20 else []⟩:=rfl
    refine ⟨.a (.agg (evS (fitE e k) ⟨none,0,0,some ((α 3).add (0+0)),(e.D.take 20).length,c2⟩)),[],⟨⟨rfl,rfl,rfl⟩,?_⟩,W',ms',⟨none,0,0,some ((α 3).add (0+0)),(e.D.take 20).length,c2⟩,hL,⟨(by rw [show (fitE e k).N=[] from hT]; exact SlAt.nul),(by rw [show (fitE e k).D=_ from hDD]; exact SlAt.frz (F:=fun j=>!memB j [0]) (hI 3 rfl) rfl (show (e.D.take 20).length≤c2 from hmle) (show (e.D.take 20).length≤9223372036854775807 by rw [List.length_take]; omega) (by decide) (by rw [List.length_map,Nat.mul_one]) take_fin (rz_w8 _))⟩,rfl,rfl⟩
    (repeat first|exact trivial|refine ent1 ?_)
 ·obtain ⟨h1,h2,h3⟩:=hx
  refine And.intro (fun hlt=>?_) (fun hge=>?_)
  ·have hlt:P.length<(evNames (kindE k)).length:=by have:(P.length:Int)<((evNames (kindE k)).length:Int):=of_decide_eq_true hlt; omega
   (repeat show _∧_;first|refine yr ?_|refine yt ?_|refine yf ?_|refine yo ?_)
   refine And.intro ⟨h1,by first|omega|(simp only [scale_eq]; omega),show (P.length+1)*8≤140737488355328 by omega⟩ ?_
   intro c' hc'
   (repeat show _∧_;first|refine yr ?_|refine yt ?_|refine yf ?_|refine yo ?_)
   refine ⟨some (P++[BitVec.ofNat 64 P.length*7#64],c'),[0,1,2,3,6],⟨⟨rfl,rfl,rfl⟩,?_⟩,⟨by rw [List.length_append,List.length_singleton]; exact hc',by rw [List.length_append,List.length_singleton]; omega,by rw [← h3]; exact (padE_step hlt).symm⟩,by dsimp only; rw [List.length_append,List.length_singleton]; omega⟩
   (repeat first|exact trivial|refine ent1 ?_)
   refine ⟨by rw [List.length_append,List.length_singleton],?_⟩
   (repeat first|exact trivial|refine ent1 ?_)
   exact ⟨fun j hj=>eqC_nums (app_nums rfl (fun j x h=>nums_get h) (congrArg SC.w64 (by rw [BitVec.ofInt_natCast]))) j,by (repeat first|exact trivial|refine ent1 ?_)⟩
  ·have hge:(evNames (kindE k)).length≤P.length:=by have:¬ (P.length:Int)<((evNames (kindE k)).length:Int):=of_decide_eq_false hge; omega
   rw [padE_done hge] at h3
   have hT:((padE e.N ((evNames (kindE k)).length-e.N.length)).take (evNames (kindE k)).length).map mk62=(P.take (evNames (kindE k)).length).map mk62:=by rw [← h3]
   have hTl:((P.take (evNames (kindE k)).length).map mk62).length=(evNames (kindE k)).length:=by simp only [List.length_map,List.length_take]; omega
   refine And.intro (show (0:Int)≤0∧(0:Int)≤((evNames (kindE k)).length:Int)∧((evNames (kindE k)).length:Int)≤(c:Int) by omega) ?_
   refine frcN_of (m:=0) rfl ?_
   refine frcN_of (m:=(evNames (kindE k)).length) (by omega) ?_
   refine frcN_of (m:=0) (by split <;> omega) ?_
   refine frcN_of (m:=(evNames (kindE k)).length) (by omega) ?_
   refine frcN_of (m:=c) (by omega) ?_
   (repeat show _∧_;first|refine yr ?_|refine yt ?_|refine yf ?_|refine yo ?_)
   refine .inl ⟨Nat,fun i=>⟨[.any,.a (.c (.w8 (k))),.a (.c (.p 1 0 0)),.any,.a (.c (.p 2 0 0)),.a (.c (.int .i64 (↑(evNames (kindE k)).length))),.a (.c (.bool ((evData (kindE k))))),.any,.any,.any,.any,.any,.any,.any,.any,.any,.any,.any,.any,.any,.any,.any,.any,.any,.any,.any,.any,.any,.any,.any,.any,.any,.any,.any,.any,.any,.any,.any,.any,.any,.any,.any,.any,.any,.any,.any,.a (.c (.int .i64 (↑(evNames (kindE k)).length))),.a (.c (.int .i64 (↑i))),.any,.any,.any,.any,.any,.any,.any,.any,.any,.any,.any,.any,.any,.any,.any,.any,.any,.any,.any,.any,.any,.any],[[.past W ms],[.one (.w8 (kindE k)),.one (.w64 (e.t % 1125899906842625#64)),.one (.sl 4 0 0 (evNames (kindE k)).length c),.one (.sl 3 0 0 e.D.length c2)],[.one (.w8 0),.one (.w64 0),.one (.slc none 0 0),.one (.slc none 0 0)],lsC e.D c2,[.row c (numsF (mskN i P))]]⟩,fun i=>i≤(evNames (kindE k)).length,fun i=>(evNames (kindE k)).length-i,⟨0,[0,1,2,3,4],⟨⟨rfl,rfl,rfl⟩,?_⟩,Nat.zero_le _⟩,fun i hi=>And.intro (fun hlt=>?_) (fun hge2=>?_)⟩
   ·(repeat first|exact trivial|refine ent1 ?_)
    exact ⟨fun j hj=>by rw [mskN_zero]; exact eqC_numsS,by (repeat first|exact trivial|refine ent1 ?_)⟩
   ·have hlt:i<(evNames (kindE k)).length:=by have:(i:Int)<((evNames (kindE k)).length:Int):=of_decide_eq_true hlt; omega
    obtain ⟨y,hy⟩:∃ y,P[i]?=some y:=⟨_,List.getElem?_eq_getElem (by omega)⟩
    have hmy:(mskN i P)[(i:Int).toNat+0]?=some y:=by rw [show (i:Int).toNat+0=i by omega,mskN_get hy,if_neg (by omega)]
    refine And.intro (show (0:Int)≤(i:Int)∧(i:Int)<((evNames (kindE k)).length:Int) by omega) ?_
    refine And.intro (show (i:Int).toNat+0<c by omega) ?_
    refine frc_nums hmy ?_
    refine And.intro (show (0:Int)≤(i:Int)∧(i:Int)<((evNames (kindE k)).length:Int) by omega) ?_
    refine And.intro (show (i:Int).toNat+0<c by omega) ?_
    (repeat show _∧_;first|refine yr ?_|refine yt ?_|refine yf ?_|refine yo ?_)
    refine ⟨i+1,[0,1,2,3,4],⟨⟨rfl,rfl,rfl⟩,?_⟩,by omega,by dsimp only; omega⟩
    (repeat first|exact trivial|refine ent1 ?_)
    exact ⟨fun j hj=>eqC_nums (fun j x h=>by rw [show (i:Int).toNat+0=i by omega]; exact msk_step hy j x h) j,by (repeat first|exact trivial|refine ent1 ?_)⟩
   ·obtain rfl:i=(evNames (kindE k)).length:=by have:¬ (i:Int)<((evNames (kindE k)).length:Int):=of_decide_eq_false hge2; omega
    (repeat show _∧_;first|refine yr ?_|refine yt ?_|refine yf ?_|refine yo ?_)
    cases hdt:evData (kindE k)
    ·refine And.intro (fun _=>?_) (fun h=>absurd h (by decide))
     (repeat show _∧_;first|refine yr ?_|refine yt ?_|refine yf ?_|refine yo ?_)
     have hDD:(if evData (kindE k)=true then e.D.take 20 else [])=[]:=by rw [hdt]; rfl
     refine finW_frz [0] rfl (Nat.zero_lt_one) cx0_m rfl (fun W' ms' α hL hI=>?_)
     have hfe:fitE e k=⟨kindE k,e.t % 1125899906842625#64,((padE e.N ((evNames (kindE k)).length-e.N.length)).take (evNames (kindE k)).length).map mk62,if evData (kindE k)=true then e.D.take 20 else []⟩:=rfl
     refine ⟨.a (.agg (evS (fitE e k) ⟨some ((α 4).add (0+0)),(evNames (kindE k)).length,c,none,0,0⟩)),[],⟨⟨rfl,rfl,rfl⟩,?_⟩,W',ms',⟨some ((α 4).add (0+0)),(evNames (kindE k)).length,c,none,0,0⟩,hL,⟨(by rw [show (fitE e k).N=_ from hT]; exact SlAt.frz (F:=fun j=>!memB j [0]) (hI 4 rfl) rfl (show (evNames (kindE k)).length≤c by omega) (show (evNames (kindE k)).length≤9223372036854775807 by omega) (by decide) (by rw [List.length_map,hTl,Nat.mul_one]) mask_fin (rz_w64 _)),(by rw [show (fitE e k).D=[] from hDD]; exact SlAt.nul)⟩,rfl,rfl⟩
     (repeat first|exact trivial|refine ent1 ?_)
    ·refine And.intro (fun h=>absurd h (by decide)) (fun _=>?_)
     have hmin:(if (20:Int)<(e.D.length:Int) then (20:Int) else (e.D.length:Int))=((e.D.take 20).length:Int):=by rw [List.length_take]; split <;> omega
     have hmle:(e.D.take 20).length≤c2:=by rw [List.length_take]; omega
     refine And.intro (show (0:Int)≤0∧(0:Int)≤(if (20:Int)<(e.D.length:Int) then (20:Int) else (e.D.length:Int))∧(if (20:Int)<(e.D.length:Int) then (20:Int) else (e.D.length:Int))≤(c2:Int) by rw [hmin]; omega) ?_
     refine frcN_of (m:=0) rfl ?_
     refine frcN_of (m:=(e.D.take 20).length) (by rw [hmin]; rfl) ?_
     refine frcN_of (m:=0) (by split <;> omega) ?_
     refine frcN_of (m:=(e.D.take 20).length) (by omega) ?_
     refine frcN_of (m:=c2) (by omega) ?_
     (repeat show _∧_;first|refine yr ?_|refine yt ?_|refine yf ?_|refine yo ?_)
     have hDD:(if evData (kindE k)=true then e.D.take 20 else [])=e.D.take 20:=by rw [hdt]; rfl
     refine finW_frz [0] rfl (Nat.zero_lt_one) cx0_m rfl (fun W' ms' α hL hI=>?_)
     have hfe:fitE e k=⟨kindE k,e.t % 1125899906842625#64,((padE e.N ((evNames (kindE k)).length-e.N.length)).take (evNames (kindE k)).length).map mk62,if evData (kindE k)=true then e.D.take 20 else []⟩:=rfl
     refine ⟨.a (.agg (evS (fitE e k) ⟨some ((α 4).add (0+0)),(evNames (kindE k)).length,c,some ((α 3).add (0+0)),(e.D.take 20).length,c2⟩)),[],⟨⟨rfl,rfl,rfl⟩,?_⟩,W',ms',⟨some ((α 4).add (0+0)),(evNames (kindE k)).length,c,some ((α 3).add (0+0)),(e.D.take 20).length,c2⟩,hL,⟨(by rw [show (fitE e k).N=_ from hT]; exact SlAt.frz (F:=fun j=>!memB j [0]) (hI 4 rfl) rfl (show (evNames (kindE k)).length≤c by omega) (show (evNames (kindE k)).length≤9223372036854775807 by omega) (by decide) (by rw [List.length_map,hTl,Nat.mul_one]) mask_fin (rz_w64 _)),(by rw [show (fitE e k).D=_ from hDD]; exact SlAt.frz (F:=fun j=>!memB j [0]) (hI 3 rfl) rfl (show (e.D.take 20).length≤c2 from hmle) (show (e.D.take 20).length≤9223372036854775807 by rw [List.length_take]; omega) (by decide) (by rw [List.length_map,Nat.mul_one]) take_fin (rz_w8 _))⟩,rfl,rfl⟩
     (repeat first|exact trivial|refine ent1 ?_)
set_option maxRecDepth 20000 in
set_option maxHeartbeats 16000000 in
theorem fn_efit00 {W:World} {ms:List Nat} {x:EvC} {e:Ev} (h:EvAt W ms x e) (hn:e.N.length≤1000) (hd:e.D.length≤1000) (hz:e.N.length=0) (hy:e.D.length=0) (k:BitVec 8):FnR Tryd.prog tds 11 1 [[.past W ms]] [.agg (evS e x),.c (.w8 k)] (fun _=>True)
  (fun y hs=>∃ W' ms' x',Later W ms W' ms'∧EvAt W' ms' x' (fitE e k)∧y=.a (.agg (evS (fitE e k) x'))∧hs=[[.past W' ms']]):=by
 refine fn_of_bodyW tds_ok follows_ Tryd.func11 rfl (t:=.a (.agg (evS e x))::.a (.c (.w8 k))::anys (Tryd.f11.ntmps-2)) rfl (fun w r0 hr _=>?_)
 obtain ⟨x0,rfl⟩:=List.length_eq_one_iff.1 hr
 have hm8:=many_le (kindE k)
 (repeat show _∧_;first|refine yr ?_|refine yt ?_|refine yf ?_|refine yo ?_)
 refine call_same (fn_ecl00 h (by omega) (by omega) hz hy) [0] rfl (by (repeat first|exact trivial|refine ent1 ?_)) (by (repeat first|exact trivial|refine ent1 ?_)) (fun _ _=>trivial) ?_
 rintro y hs' ⟨rfl,rfl⟩
 (repeat show _∧_;first|refine yr ?_|refine yt ?_|refine yf ?_|refine yo ?_)
 refine call_same (fn_many (kindE k) (kindE_ok k)) [] rfl (by (repeat first|exact trivial|refine ent1 ?_)) trivial (fun _ _=>trivial) ?_
 rintro y hs' ⟨rfl,rfl⟩
 (repeat show _∧_;first|refine yr ?_|refine yt ?_|refine yf ?_|refine yo ?_)
 refine .inl ⟨Option (List (BitVec 64) × Nat),fun x=>match x with
  | none=>⟨[.any,.a (.c (.w8 (k))),.a (.c (.p 1 0 0)),.any,.a (.c (.p 2 0 0)),.a (.c (.int .i64 (↑(evNames (kindE k)).length))),.a (.c (.bool ((evData (kindE k))))),.any,.any,.any,.any,.any,.any,.any,.any,.any,.any,.any,.any,.any,.any,.any,.any,.any,.any,.any,.any,.any,.any,.any,.any,.any,.any,.any,.any,.any,.any,.any,.any,.any,.any,.any,.any,.any,.any,.any,.any,.any,.any,.any,.any,.any,.any,.any,.any,.any,.any,.any,.any,.any,.any,.any,.any,.any,.any,.any,.any,.any,.any,.any],[[.past W ms],[.one (.w8 (kindE k)),.one (.w64 (e.t % 1125899906842625#64)),.one (.slc none 0 0),.one (.slc none 0 0)],[.one (.w8 0),.one (.w64 0),.one (.slc none 0 0),.one (.slc none 0 0)]]⟩
  | some (P,c)=>⟨[.any,.a (.c (.w8 (k))),.a (.c (.p 1 0 0)),.any,.a (.c (.p 2 0 0)),.a (.c (.int .i64 (↑(evNames (kindE k)).length))),.a (.c (.bool ((evData (kindE k))))),.any,.any,.any,.any,.any,.any,.any,.any,.any,.any,.any,.any,.any,.any,.any,.any,.any,.any,.any,.any,.any,.any,.any,.any,.any,.any,.any,.any,.any,.any,.any,.any,.any,.any,.any,.any,.any,.any,.any,.any,.any,.any,.any,.any,.any,.any,.any,.any,.any,.any,.any,.any,.any,.any,.any,.any,.any,.any,.any,.any,.any,.any,.any],[[.past W ms],[.one (.w8 (kindE k)),.one (.w64 (e.t % 1125899906842625#64)),.one (.sl 3 0 0 P.length c),.one (.slc none 0 0)],[.one (.w8 0),.one (.w64 0),.one (.slc none 0 0),.one (.slc none 0 0)],[.row c (numsF P)]]⟩,
  fun x=>match x with
  | none=>True
  | some (P,c)=>P.length≤c∧P.length≤1100∧padE P ((evNames (kindE k)).length-P.length)=padE e.N ((evNames (kindE k)).length-e.N.length),
  fun x=>match x with
  | none=>(evNames (kindE k)).length+1
  | some (P,c)=>(evNames (kindE k)).length-P.length,⟨none,[0,1,2],⟨⟨rfl,rfl,rfl⟩,by (repeat first|exact trivial|refine ent1 ?_)⟩,trivial⟩,fun x hx=>?_⟩
 have hN0:e.N=[]:=List.eq_nil_of_length_eq_zero hz
 rcases x with _|⟨P,c⟩
 ·refine And.intro (fun hlt=>?_) (fun hge=>?_)
  ·have hlt:0<(evNames (kindE k)).length:=by have:(0:Int)<((evNames (kindE k)).length:Int):=of_decide_eq_true hlt; omega
   (repeat show _∧_;first|refine yr ?_|refine yt ?_|refine yf ?_|refine yo ?_)
   intro c' hc'
   (repeat show _∧_;first|refine yr ?_|refine yt ?_|refine yf ?_|refine yo ?_)
   refine ⟨some ([BitVec.ofNat 64 0*7#64],c'),[0,1,2,4],⟨⟨rfl,rfl,rfl⟩,?_⟩,⟨hc',by decide,?_⟩,by dsimp only; simp only [List.length_singleton]; omega⟩
   ·(repeat first|exact trivial|refine ent1 ?_)
    exact ⟨fun j hj=>eqC_nums (new_nums rfl) j,by (repeat first|exact trivial|refine ent1 ?_)⟩
   ·have:=padE_step (P:=[]) (m:=(evNames (kindE k)).length) hlt
    rw [hN0]
    exact this.symm
  ·have hge:(evNames (kindE k)).length=0:=by have:¬ (0:Int)<((evNames (kindE k)).length:Int):=of_decide_eq_false hge; omega
   have hT:((padE e.N ((evNames (kindE k)).length-e.N.length)).take (evNames (kindE k)).length).map mk62=[]:=by rw [hge]; simp
   refine And.intro (show (0:Int)≤0∧(0:Int)≤((evNames (kindE k)).length:Int)∧((evNames (kindE k)).length:Int)≤((0:Nat):Int) by omega) ?_
   refine frcN_of (m:=0) rfl ?_
   refine frcN_of (m:=0) (by omega) ?_
   refine frcN_of (m:=0) rfl ?_
   refine frcN_of (m:=0) rfl ?_
   (repeat show _∧_;first|refine yr ?_|refine yt ?_|refine yf ?_|refine yo ?_)
   refine .inr ⟨1,?_⟩
   refine And.intro (fun h=>absurd h (by decide)) (fun _=>?_)
   cases hdt:evData (kindE k)
   ·refine And.intro (fun _=>?_) (fun h=>absurd h (by decide))
    (repeat show _∧_;first|refine yr ?_|refine yt ?_|refine yf ?_|refine yo ?_)
    have hDD:(if evData (kindE k)=true then e.D.take 20 else [])=[]:=by rw [hdt]; rfl
    refine finW_frz [0] rfl (Nat.zero_lt_one) cx0_m rfl (fun W' ms' α hL hI=>?_)
    have hfe:fitE e k=⟨kindE k,e.t % 1125899906842625#64,((padE e.N ((evNames (kindE k)).length-e.N.length)).take (evNames (kindE k)).length).map mk62,if evData (kindE k)=true then e.D.take 20 else []⟩:=rfl
    refine ⟨.a (.agg (evS (fitE e k) ⟨none,0,0,none,0,0⟩)),[],⟨⟨rfl,rfl,rfl⟩,?_⟩,W',ms',⟨none,0,0,none,0,0⟩,hL,⟨(by rw [show (fitE e k).N=[] from hT]; exact SlAt.nul),(by rw [show (fitE e k).D=[] from hDD]; exact SlAt.nul)⟩,rfl,rfl⟩
    (repeat first|exact trivial|refine ent1 ?_)
   ·refine And.intro (fun h=>absurd h (by decide)) (fun _=>?_)
    (repeat show _∧_;first|refine yr ?_|refine yt ?_|refine yf ?_|refine yo ?_)
    have hDD:(if evData (kindE k)=true then e.D.take 20 else [])=[]:=by rw [hdt,List.eq_nil_of_length_eq_zero hy]; rfl
    refine finW_frz [0] rfl (Nat.zero_lt_one) cx0_m rfl (fun W' ms' α hL hI=>?_)
    have hfe:fitE e k=⟨kindE k,e.t % 1125899906842625#64,((padE e.N ((evNames (kindE k)).length-e.N.length)).take (evNames (kindE k)).length).map mk62,if evData (kindE k)=true then e.D.take 20 else []⟩:=rfl
    refine ⟨.a (.agg (evS (fitE e k) ⟨none,0,0,none,0,0⟩)),[],⟨⟨rfl,rfl,rfl⟩,?_⟩,W',ms',⟨none,0,0,none,0,0⟩,hL,⟨(by rw [show (fitE e k).N=[] from hT]; exact SlAt.nul),(by rw [show (fitE e k).D=[] from hDD]; exact SlAt.nul)⟩,rfl,rfl⟩
    (repeat first|exact trivial|refine ent1 ?_)
 ·obtain ⟨h1,h2,h3⟩:=hx
  refine And.intro (fun hlt=>?_) (fun hge=>?_)
  ·have hlt:P.length<(evNames (kindE k)).length:=by have:(P.length:Int)<((evNames (kindE k)).length:Int):=of_decide_eq_true hlt; omega
   (repeat show _∧_;first|refine yr ?_|refine yt ?_|refine yf ?_|refine yo ?_)
   refine And.intro ⟨h1,by first|omega|(simp only [scale_eq]; omega),show (P.length+1)*8≤140737488355328 by omega⟩ ?_
   intro c' hc'
   (repeat show _∧_;first|refine yr ?_|refine yt ?_|refine yf ?_|refine yo ?_)
   refine ⟨some (P++[BitVec.ofNat 64 P.length*7#64],c'),[0,1,2,5],⟨⟨rfl,rfl,rfl⟩,?_⟩,⟨by rw [List.length_append,List.length_singleton]; exact hc',by rw [List.length_append,List.length_singleton]; omega,by rw [← h3]; exact (padE_step hlt).symm⟩,by dsimp only; rw [List.length_append,List.length_singleton]; omega⟩
   (repeat first|exact trivial|refine ent1 ?_)
   refine ⟨by rw [List.length_append,List.length_singleton],?_⟩
   (repeat first|exact trivial|refine ent1 ?_)
   exact ⟨fun j hj=>eqC_nums (app_nums rfl (fun j x h=>nums_get h) (congrArg SC.w64 (by rw [BitVec.ofInt_natCast]))) j,by (repeat first|exact trivial|refine ent1 ?_)⟩
  ·have hge:(evNames (kindE k)).length≤P.length:=by have:¬ (P.length:Int)<((evNames (kindE k)).length:Int):=of_decide_eq_false hge; omega
   rw [padE_done hge] at h3
   have hT:((padE e.N ((evNames (kindE k)).length-e.N.length)).take (evNames (kindE k)).length).map mk62=(P.take (evNames (kindE k)).length).map mk62:=by rw [← h3]
   have hTl:((P.take (evNames (kindE k)).length).map mk62).length=(evNames (kindE k)).length:=by simp only [List.length_map,List.length_take]; omega
   refine And.intro (show (0:Int)≤0∧(0:Int)≤((evNames (kindE k)).length:Int)∧((evNames (kindE k)).length:Int)≤(c:Int) by omega) ?_
   refine frcN_of (m:=0) rfl ?_
   refine frcN_of (m:=(evNames (kindE k)).length) (by omega) ?_
   refine frcN_of (m:=0) (by split <;> omega) ?_
   refine frcN_of (m:=(evNames (kindE k)).length) (by omega) ?_
   refine frcN_of (m:=c) (by omega) ?_
   (repeat show _∧_;first|refine yr ?_|refine yt ?_|refine yf ?_|refine yo ?_)
   refine .inl ⟨Nat,fun i=>⟨[.any,.a (.c (.w8 (k))),.a (.c (.p 1 0 0)),.any,.a (.c (.p 2 0 0)),.a (.c (.int .i64 (↑(evNames (kindE k)).length))),.a (.c (.bool ((evData (kindE k))))),.any,.any,.any,.any,.any,.any,.any,.any,.any,.any,.any,.any,.any,.any,.any,.any,.any,.any,.any,.any,.any,.any,.any,.any,.any,.any,.any,.any,.any,.any,.any,.any,.any,.any,.any,.any,.any,.any,.any,.a (.c (.int .i64 (↑(evNames (kindE k)).length))),.a (.c (.int .i64 (↑i))),.any,.any,.any,.any,.any,.any,.any,.any,.any,.any,.any,.any,.any,.any,.any,.any,.any,.any,.any,.any,.any,.any],[[.past W ms],[.one (.w8 (kindE k)),.one (.w64 (e.t % 1125899906842625#64)),.one (.sl 3 0 0 (evNames (kindE k)).length c),.one (.slc none 0 0)],[.one (.w8 0),.one (.w64 0),.one (.slc none 0 0),.one (.slc none 0 0)],[.row c (numsF (mskN i P))]]⟩,fun i=>i≤(evNames (kindE k)).length,fun i=>(evNames (kindE k)).length-i,⟨0,[0,1,2,3],⟨⟨rfl,rfl,rfl⟩,?_⟩,Nat.zero_le _⟩,fun i hi=>And.intro (fun hlt=>?_) (fun hge2=>?_)⟩
   ·(repeat first|exact trivial|refine ent1 ?_)
    exact ⟨fun j hj=>by rw [mskN_zero]; exact eqC_numsS,by (repeat first|exact trivial|refine ent1 ?_)⟩
   ·have hlt:i<(evNames (kindE k)).length:=by have:(i:Int)<((evNames (kindE k)).length:Int):=of_decide_eq_true hlt; omega
    obtain ⟨y,hy⟩:∃ y,P[i]?=some y:=⟨_,List.getElem?_eq_getElem (by omega)⟩
    have hmy:(mskN i P)[(i:Int).toNat+0]?=some y:=by rw [show (i:Int).toNat+0=i by omega,mskN_get hy,if_neg (by omega)]
    refine And.intro (show (0:Int)≤(i:Int)∧(i:Int)<((evNames (kindE k)).length:Int) by omega) ?_
    refine And.intro (show (i:Int).toNat+0<c by omega) ?_
    refine frc_nums hmy ?_
    refine And.intro (show (0:Int)≤(i:Int)∧(i:Int)<((evNames (kindE k)).length:Int) by omega) ?_
    refine And.intro (show (i:Int).toNat+0<c by omega) ?_
    (repeat show _∧_;first|refine yr ?_|refine yt ?_|refine yf ?_|refine yo ?_)
    refine ⟨i+1,[0,1,2,3],⟨⟨rfl,rfl,rfl⟩,?_⟩,by omega,by dsimp only; omega⟩
    (repeat first|exact trivial|refine ent1 ?_)
    exact ⟨fun j hj=>eqC_nums (fun j x h=>by rw [show (i:Int).toNat+0=i by omega]; exact msk_step hy j x h) j,by (repeat first|exact trivial|refine ent1 ?_)⟩
   ·obtain rfl:i=(evNames (kindE k)).length:=by have:¬ (i:Int)<((evNames (kindE k)).length:Int):=of_decide_eq_false hge2; omega
    (repeat show _∧_;first|refine yr ?_|refine yt ?_|refine yf ?_|refine yo ?_)
    cases hdt:evData (kindE k)
    ·refine And.intro (fun _=>?_) (fun h=>absurd h (by decide))
     (repeat show _∧_;first|refine yr ?_|refine yt ?_|refine yf ?_|refine yo ?_)
     have hDD:(if evData (kindE k)=true then e.D.take 20 else [])=[]:=by rw [hdt]; rfl
     refine finW_frz [0] rfl (Nat.zero_lt_one) cx0_m rfl (fun W' ms' α hL hI=>?_)
     have hfe:fitE e k=⟨kindE k,e.t % 1125899906842625#64,((padE e.N ((evNames (kindE k)).length-e.N.length)).take (evNames (kindE k)).length).map mk62,if evData (kindE k)=true then e.D.take 20 else []⟩:=rfl
     refine ⟨.a (.agg (evS (fitE e k) ⟨some ((α 3).add (0+0)),(evNames (kindE k)).length,c,none,0,0⟩)),[],⟨⟨rfl,rfl,rfl⟩,?_⟩,W',ms',⟨some ((α 3).add (0+0)),(evNames (kindE k)).length,c,none,0,0⟩,hL,⟨(by rw [show (fitE e k).N=_ from hT]; exact SlAt.frz (F:=fun j=>!memB j [0]) (hI 3 rfl) rfl (show (evNames (kindE k)).length≤c by omega) (show (evNames (kindE k)).length≤9223372036854775807 by omega) (by decide) (by rw [List.length_map,hTl,Nat.mul_one]) mask_fin (rz_w64 _)),(by rw [show (fitE e k).D=[] from hDD]; exact SlAt.nul)⟩,rfl,rfl⟩
     (repeat first|exact trivial|refine ent1 ?_)
    ·refine And.intro (fun h=>absurd h (by decide)) (fun _=>?_)
     (repeat show _∧_;first|refine yr ?_|refine yt ?_|refine yf ?_|refine yo ?_)
     have hDD:(if evData (kindE k)=true then e.D.take 20 else [])=[]:=by rw [hdt,List.eq_nil_of_length_eq_zero hy]; rfl
     refine finW_frz [0] rfl (Nat.zero_lt_one) cx0_m rfl (fun W' ms' α hL hI=>?_)
     have hfe:fitE e k=⟨kindE k,e.t % 1125899906842625#64,((padE e.N ((evNames (kindE k)).length-e.N.length)).take (evNames (kindE k)).length).map mk62,if evData (kindE k)=true then e.D.take 20 else []⟩:=rfl
     refine ⟨.a (.agg (evS (fitE e k) ⟨some ((α 3).add (0+0)),(evNames (kindE k)).length,c,none,0,0⟩)),[],⟨⟨rfl,rfl,rfl⟩,?_⟩,W',ms',⟨some ((α 3).add (0+0)),(evNames (kindE k)).length,c,none,0,0⟩,hL,⟨(by rw [show (fitE e k).N=_ from hT]; exact SlAt.frz (F:=fun j=>!memB j [0]) (hI 3 rfl) rfl (show (evNames (kindE k)).length≤c by omega) (show (evNames (kindE k)).length≤9223372036854775807 by omega) (by decide) (by rw [List.length_map,hTl,Nat.mul_one]) mask_fin (rz_w64 _)),(by rw [show (fitE e k).D=[] from hDD]; exact SlAt.nul)⟩,rfl,rfl⟩
     (repeat first|exact trivial|refine ent1 ?_)
end Sx
end
section
namespace Sx
open Go.RowKit Sha Vi Ev

theorem fn_efit {W:World} {ms:List Nat} {x:EvC} {e:Ev} (h:EvAt W ms x e) (hn:e.N.length≤1000) (hd:e.D.length≤1000) (k:BitVec 8):FnR Tryd.prog tds 11 1 [[.past W ms]] [.agg (evS e x),.c (.w8 k)] (fun _=>True)
  (fun y hs=>∃ W' ms' x',Later W ms W' ms'∧EvAt W' ms' x' (fitE e k)∧y=.a (.agg (evS (fitE e k) x'))∧hs=[[.past W' ms']]):=by
 rcases Nat.eq_zero_or_pos e.N.length with hz|hz <;> rcases Nat.eq_zero_or_pos e.D.length with hy|hy
 ·exact fn_efit00 h hn hd hz hy k
 ·exact fn_efit01 h hn hd hz hy k
 ·exact fn_efit10 h hn hd hz hy k
 ·exact fn_efit11 h hn hd hz hy k
structure EvsAt (W:World) (ms:List Nat) (a:Option Addr) (n c:Nat) (es:List Ev):Prop where
 len:es.length=n
 le:n≤c
 cap:n≤9223372036854775807
 nil:a=none→c=0
 elt:∀ A,a=some A→∀ k e,es[k]?=some e→∃ x,ImAt W ms (A.add (k*4)) (flat (evS e x))∧EvAt W ms x e
theorem EvsAt.later {W W':World} {ms ms':List Nat} {a:Option Addr} {n c:Nat} {es:List Ev} (h:EvsAt W ms a n c es) (k:Later W ms W' ms'):EvsAt W' ms' a n c es :=
 ⟨h.len,h.le,h.cap,h.nil,fun A ha j e he=>let ⟨x,h1,h2⟩:=h.elt A ha j e he; ⟨x,h1.later k,h2.later k⟩⟩
def lightE (es:List Ev):Bool:=decide (∀ e∈es,e.N.length≤30∧e.D.length≤100) && decide (es.length≤60)
set_option maxRecDepth 20000 in
set_option maxHeartbeats 8000000 in
theorem fn_light {W:World} {ms:List Nat} {a:Option Addr} {n c:Nat} {es:List Ev} (h:EvsAt W ms a n c es):FnR Tryd.prog tds 10 1 [[.past W ms]] [.c (.slc a n c)] (fun _=>True)
  (fun y hs=>y=.a (.c (.bool (lightE es)))∧hs=[[.past W ms]]):=by
 have hl:=h.len
 have hcap:=h.cap
 refine fn_of_body tds_ok follows_ Tryd.func10 rfl (t:=.a (.c (.slc a n c))::anys (Tryd.f10.ntmps-1)) rfl (fun w r0 hr _=>?_)
 obtain ⟨x0,rfl⟩:=List.length_eq_one_iff.1 hr
 (repeat show _∧_;first|refine yr ?_|refine yt ?_|refine yf ?_|refine yo ?_)
 refine .inl ⟨Nat,fun i=>⟨[.a (.c (.slc a n c)),.any,.any,.any,.any,.a (.c (.slc a n c)),.a (.c (.int .i64 (↑n))),.a (.c (.int .i64 (↑i))),.any,.any,.any,.any,.any,.any,.any,.any,.any,.any,.any,.any,.any,.any,.any,.any,.any],[[.past W ms]]⟩,fun i=>i≤n∧∀ j e,j<i→es[j]?=some e→e.N.length≤30∧e.D.length≤100,fun i=>n-i,⟨0,[0],⟨⟨rfl,rfl,rfl⟩,by (repeat first|exact trivial|refine ent1 ?_)⟩,Nat.zero_le _,fun j e hj=>absurd hj (Nat.not_lt_zero _)⟩,fun i ⟨hi,hall⟩=>And.intro (fun hlt=>?_) (fun hge=>?_)⟩
 ·have hlt:i<n:=by have:(i:Int)<(n:Int):=of_decide_eq_true hlt; omega
  obtain ⟨e,he⟩:∃ e,es[i]?=some e:=⟨_,List.getElem?_eq_getElem (by omega)⟩
  cases ha:a with
  | none=>have:=h.nil ha; have:=h.le; omega
  | some A =>
  obtain ⟨x,him,hx⟩:=h.elt A ha i e he
  have hnN:=hx.nN
  have hnD:=hx.nD
  obtain ⟨aN,nN,cN,aD,nD,cD⟩:=x
  dsimp only at hnN hnD
  subst hnN; subst hnD
  subst ha
  refine And.intro (show (0:Int)≤(i:Int)∧(i:Int)<(n:Int) by omega) ?_
  refine ⟨evS e ⟨aN,e.N.length,cN,aD,e.D.length,cD⟩,⟨RawAt.past (i:=0) rfl him,rfl⟩,?_⟩
  by_cases h1:30<e.N.length
  ·have e1:decide ((30:Int)<(e.N.length:Int))=true:=decide_eq_true (by omega)
   (repeat show _∧_;first|refine yr ?_|refine yt ?_|refine yf ?_|refine yt ?_ (by first|decide|(rw[e1];decide))|refine yf ?_ (by first|decide|(rw[e1];decide))|refine yo ?_)
   refine ⟨.a (.c (.bool (lightE es))),[[.past W ms]],⟨[0],⟨rfl,rfl,rfl⟩,?_⟩,rfl,rfl⟩
   have:lightE es=false:=by
    unfold lightE
    rw [decide_eq_false (fun hc=>by have:=(hc e (List.mem_of_getElem? he)).1; omega)]; rfl
   rw [this]
   (repeat first|exact trivial|refine ent1 ?_)
  have e1:decide ((30:Int)<(e.N.length:Int))=false:=decide_eq_false (by omega)
  by_cases h2:100<e.D.length
  ·have e2:decide ((100:Int)<(e.D.length:Int))=true:=decide_eq_true (by omega)
   (repeat show _∧_;first|refine yr ?_|refine yt ?_|refine yf ?_|refine yt ?_ (by first|decide|(rw[e1];decide)|(rw[e2];decide))|refine yf ?_ (by first|decide|(rw[e1];decide)|(rw[e2];decide))|refine yo ?_)
   refine ⟨.a (.c (.bool (lightE es))),[[.past W ms]],⟨[0],⟨rfl,rfl,rfl⟩,?_⟩,rfl,rfl⟩
   have:lightE es=false:=by
    unfold lightE
    rw [decide_eq_false (fun hc=>by have:=(hc e (List.mem_of_getElem? he)).2; omega)]; rfl
   rw [this]
   (repeat first|exact trivial|refine ent1 ?_)
  have e2:decide ((100:Int)<(e.D.length:Int))=false:=decide_eq_false (by omega)
  (repeat show _∧_;first|refine yr ?_|refine yt ?_|refine yf ?_|refine yt ?_ (by first|decide|(rw[e1];decide)|(rw[e2];decide))|refine yf ?_ (by first|decide|(rw[e1];decide)|(rw[e2];decide))|refine yo ?_)
  refine ⟨i+1,[0],⟨⟨rfl,rfl,rfl⟩,by (repeat first|exact trivial|refine ent1 ?_)⟩,⟨by omega,fun j e' hj he'=>?_⟩,by dsimp only; omega⟩
  by_cases hji:j=i
  ·subst hji; rw [he] at he'; injection he' with he'; subst he'; omega
  ·exact hall j e' (by omega) he'
 ·have hge:i=n:=by have:¬ (i:Int)<(n:Int):=of_decide_eq_false hge; omega
  subst hge
  have h1:lightE es=decide (es.length≤60):=by
   unfold lightE
   rw [decide_eq_true (fun e he=>by
    obtain ⟨j,hj,rfl⟩:=List.mem_iff_getElem.1 he
    exact hall j _ (by omega) (List.getElem?_eq_getElem hj))]
   rfl
  have h2:decide (es.length≤60)=decide ((i:Int)≤60):=by
   rw [hl]
   exact decide_eq_decide.2 (by omega)
  (repeat show _∧_;first|refine yr ?_|refine yt ?_|refine yf ?_|refine yo ?_)
  refine ⟨.a (.c (.bool (lightE es))),[[.past W ms]],⟨[0],⟨rfl,rfl,rfl⟩,?_⟩,rfl,rfl⟩
  rw [h1,h2]
  (repeat first|exact trivial|refine ent1 ?_)
end Sx
end
section
namespace Ev
end Ev
namespace Sx
open Go.RowKit Sha Vi Ev

structure RowAt (W:World) (ms:List Nat) (cs:List SC) (es:List Ev):Prop where
 len:cs.length=es.length*4
 raw:∀ x∈cs,x.raw=x
 elt:∀ k e,es[k]?=some e→∃ x,(∀ i y,(flat (evS e x))[i]?=some y→cs[k*4+i]?=some y)∧EvAt W ms x e
theorem RowAt.nil {W:World} {ms:List Nat}:RowAt W ms [] []:=⟨rfl,(fun x hx=>nomatch hx),fun k e h=>by simp at h⟩
theorem RowAt.snoc {W:World} {ms:List Nat} {cs:List SC} {es:List Ev} {e:Ev} {x:EvC} (h:RowAt W ms cs es) (hx:EvAt W ms x e):RowAt W ms (cs++flat (evS e x)) (es++[e]):=by
 have hl:=h.len
 refine ⟨by rw [List.length_append,hl,List.length_append,List.length_singleton]; show _+4=_; omega,fun y hy=>?_,fun k e' he=>?_⟩
 ·rcases List.mem_append.1 hy with hy|hy
  ·exact h.raw y hy
  ·simp only [flat,List.mem_cons,List.not_mem_nil,or_false] at hy
   rcases hy with rfl|rfl|rfl|rfl <;> rfl
 ·rcases Nat.lt_or_ge k es.length with hk|hk
  ·rw [List.getElem?_append_left hk] at he
   obtain ⟨z,h1,h2⟩:=h.elt k e' he
   refine ⟨z,fun i y hy=>?_,h2⟩
   have hi:=(List.getElem?_eq_some_iff.1 hy).1
   have h4:(flat (evS e' z)).length=4:=rfl
   rw [List.getElem?_append_left (by omega)]
   exact h1 i y hy
  ·rw [List.getElem?_append_right hk] at he
   have hk0:k-es.length=0:=by
    rcases Nat.eq_zero_or_pos (k-es.length) with h1|h1
    ·exact h1
    ·rw [List.getElem?_eq_none (by simp; omega)] at he; cases he
   rw [hk0] at he
   injection he with he
   subst he
   refine ⟨x,fun i y hy=>?_,hx⟩
   rw [List.getElem?_append_right (by omega),show k*4+i-cs.length=i by omega]
   exact hy
theorem sc4 (n:Nat):scale n (3+1)=n*4:=scale_eq _ _
theorem updN_new {f:Nat→SC} {new:List SC} {j:Nat} (hj:j<4):updN f 0 4 (nthC new) (j+0)=nthC new j:=by
 unfold updN
 rw [if_pos ⟨Nat.zero_le _,by omega⟩]; rfl
end Sx
end
section
namespace Ev
def sameE (a b:Ev):Prop:=a.k=b.k∧a.t=b.t∧a.N=b.N∧a.D=b.D
instance (a b:Ev):Decidable (sameE a b):=by unfold sameE; infer_instance
end Ev
namespace Sx
open Go.RowKit Sha Vi Ev

theorem strR {C:Cx} {h:List (List Seg)} {i:Nat} {W:World} {ms:List Nat} (hp:h[i]?=some [.past W ms]) {a:Addr} {n c:Nat} {l:Bs} (k:BsAt W ms (some a) n c l) {K:List UInt8→Prop} (hk:K (U8 l)) :
  ∃ f,(n=0∨RawAt C h a ((List.range (n*1)).map f))∧∃ s:List UInt8,(s.length=n∧∀ q,q<n→f q=.w8 (s.getD q 0).toBitVec)∧K s:=by
 have hn:=k.n1
 refine ⟨nthC (l.map .w8),?_,U8 l,⟨by rw [U8_len,hn],fun q hq=>?_⟩,hk⟩
 ·rcases Nat.eq_zero_or_pos n with h0|h0
  ·exact .inl h0
  ·exact .inr (by rw [← k.len,range_nthC]; exact .past hp (k.im a rfl (by have:=k.le; omega)))
 ·rw [nthC_w8 l q (by omega),U8_get l q (by omega)]
set_option maxRecDepth 20000 in
set_option maxHeartbeats 8000000 in
theorem fn_bequal {W:World} {ms:List Nat} {a b:Option Addr} {n c m d:Nat} {l l2:Bs} (h1:BsAt W ms a n c l) (h2:BsAt W ms b m d l2):FnR Tryd.prog tds 41 1 [[.past W ms]] [.c (.slc a n c),.c (.slc b m d)] (fun _=>True)
  (fun y hs=>y=.a (.c (.bool (decide (l=l2))))∧hs=[[.past W ms]]):=by
 refine fn_of_body tds_ok follows_ Tryd.func41 rfl (t:=.a (.c (.slc a n c))::.a (.c (.slc b m d))::anys (Tryd.f41.ntmps-2)) rfl (fun w r0 hr _=>?_)
 obtain ⟨x0,rfl⟩:=List.length_eq_one_iff.1 hr
 have fin:decide (U8 l=U8 l2)=decide (l=l2):=decide_eq_decide.2 ⟨U8_inj,fun h=>by rw [h]⟩
 cases a with
 | none =>
  obtain ⟨rfl,rfl,hl⟩:=h1.nil_
  obtain rfl:l=[]:=by simpa using hl
  refine And.intro rfl ?_
  refine ⟨[],⟨rfl,fun q hq=>absurd hq (Nat.not_lt_zero _)⟩,?_⟩
  cases b with
  | none =>
   obtain ⟨rfl,rfl,hl2⟩:=h2.nil_
   obtain rfl:l2=[]:=by simpa using hl2
   refine And.intro rfl ?_
   refine ⟨[],⟨rfl,fun q hq=>absurd hq (Nat.not_lt_zero _)⟩,?_⟩
   exact ⟨.a (.c (.bool (decide (([]:Bs)=[])))),[[.past W ms]],⟨[0],⟨rfl,rfl,rfl⟩,by (repeat first|exact trivial|refine ent1 ?_)⟩,rfl,rfl⟩
  | some B =>
   refine strR (i:=0) rfl h2 ?_
   refine ⟨.a (.c (.bool (decide ([]=l2)))),[[.past W ms]],⟨[0],⟨rfl,rfl,rfl⟩,?_⟩,rfl,rfl⟩
   rw [← fin]
   (repeat first|exact trivial|refine ent1 ?_)
 | some A =>
  refine strR (i:=0) rfl h1 ?_
  cases b with
  | none =>
   obtain ⟨rfl,rfl,hl2⟩:=h2.nil_
   obtain rfl:l2=[]:=by simpa using hl2
   refine And.intro rfl ?_
   refine ⟨[],⟨rfl,fun q hq=>absurd hq (Nat.not_lt_zero _)⟩,?_⟩
   refine ⟨.a (.c (.bool (decide (l=[])))),[[.past W ms]],⟨[0],⟨rfl,rfl,rfl⟩,?_⟩,rfl,rfl⟩
   rw [← fin]
   (repeat first|exact trivial|refine ent1 ?_)
  | some B =>
   refine strR (i:=0) rfl h2 ?_
   refine ⟨.a (.c (.bool (decide (l=l2)))),[[.past W ms]],⟨[0],⟨rfl,rfl,rfl⟩,?_⟩,rfl,rfl⟩
   rw [← fin]
   (repeat first|exact trivial|refine ent1 ?_)
set_option maxRecDepth 20000 in
set_option maxHeartbeats 8000000 in
theorem fn_nequal {W:World} {ms:List Nat} {a b:Option Addr} {n c m d:Nat} {l l2:List (BitVec 64)} (h1:NsAt W ms a n c l) (h2:NsAt W ms b m d l2):FnR Tryd.prog tds 40 1 [[.past W ms]] [.c (.slc a n c),.c (.slc b m d)] (fun _=>True)
  (fun y hs=>y=.a (.c (.bool (decide (l=l2))))∧hs=[[.past W ms]]):=by
 refine fn_of_body tds_ok follows_ Tryd.func40 rfl (t:=.a (.c (.slc a n c))::.a (.c (.slc b m d))::anys (Tryd.f40.ntmps-2)) rfl (fun w r0 hr _=>?_)
 obtain ⟨x0,rfl⟩:=List.length_eq_one_iff.1 hr
 have hn:=h1.n1
 have hm:=h2.n1
 have hcap:=h1.cap
 have hle1:=h1.le
 have hle2:=h2.le
 by_cases h0:n=m
 rotate_left
 ·have e0:decide ((n:Int)≠(m:Int))=true:=decide_eq_true (by omega)
  rw [show decide (l=l2)=false from decide_eq_false fun h=>h0 (by rw [← hn,← hm,h])]
  (repeat show _∧_;first|refine yr ?_|refine yt ?_|refine yf ?_|refine ya e0 ?_|refine yb e0 ?_|refine yo ?_)
  exact ⟨.a (.c (.bool false)),[[.past W ms]],⟨[0],⟨rfl,rfl,rfl⟩,by (repeat first|exact trivial|refine ent1 ?_)⟩,rfl,rfl⟩
 have e0:decide ((n:Int)≠(m:Int))=false:=decide_eq_false (by omega)
 (repeat show _∧_;first|refine yr ?_|refine yt ?_|refine yf ?_|refine ya e0 ?_|refine yb e0 ?_|refine yo ?_)
 refine .inl ⟨Nat,fun i=>⟨[.a (.c (.slc a n c)),.a (.c (.slc b m d)),.any,.any,.any,.any,.any,.any,.any,.any,.any,.any,.a (.c (.int .i64 (↑n))),.a (.c (.int .i64 (↑i))),.any,.any,.any,.any,.any,.any,.any,.any,.any,.any,.any,.any],[[.past W ms]]⟩,fun i=>i≤n∧∀ j,j<i→l[j]?=l2[j]?,fun i=>n-i,⟨0,[0],⟨⟨rfl,rfl,rfl⟩,by (repeat first|exact trivial|refine ent1 ?_)⟩,Nat.zero_le _,fun j hj=>absurd hj (Nat.not_lt_zero _)⟩,fun i ⟨hi,hall⟩=>And.intro (fun hlt=>?_) (fun hge=>?_)⟩
 ·have hlt:i<n:=by have:(i:Int)<(n:Int):=of_decide_eq_true hlt; omega
  obtain ⟨x,hx⟩:∃ x,l[i]?=some x:=⟨_,List.getElem?_eq_getElem (by omega)⟩
  obtain ⟨y,hy⟩:∃ y,l2[i]?=some y:=⟨_,List.getElem?_eq_getElem (by omega)⟩
  cases a with
  | none=>have:=h1.nil_.1; omega
  | some A =>
  cases b with
  | none=>have:=h2.nil_.1; omega
  | some B =>
  refine ⟨none,[],[(0,true),(1,true),(2,true),(3,true),(4,true),(5,true),(6,true),(7,true),(8,true)],[],by kernel_rfl,?_⟩
  refine And.intro (show (0:Int)≤(i:Int)∧(i:Int)<(n:Int) by omega) ?_
  refine loadR (i:=0) rfl (h1.im A rfl (by omega)) (j:=i*1) (map_get? (by rw [Nat.mul_one]; exact hx)) ?_
  refine And.intro (show (0:Int)≤(i:Int)∧(i:Int)<(m:Int) by omega) ?_
  refine loadR (i:=0) rfl (h2.im B rfl (by omega)) (j:=i*1) (map_get? (by rw [Nat.mul_one]; exact hy)) ?_
  by_cases hxy:x=y
  ·have e1:decide (x≠y)=false:=decide_eq_false fun h=>h hxy
   (repeat show _∧_;first|refine yr ?_|refine yt ?_|refine yf ?_|refine ya e1 ?_|refine yb e1 ?_|refine yo ?_)
   refine ⟨i+1,[0],⟨⟨rfl,rfl,rfl⟩,by (repeat first|exact trivial|refine ent1 ?_)⟩,⟨by omega,fun j hj=>?_⟩,by dsimp only; omega⟩
   by_cases hji:j=i
   ·subst hji; rw [hx,hy,hxy]
   ·exact hall j (by omega)
  ·have e1:decide (x≠y)=true:=decide_eq_true hxy
   rw [show decide (l=l2)=false from decide_eq_false fun h=>hxy (by rw [h,hy] at hx; injection hx with hx; exact hx.symm)]
   (repeat show _∧_;first|refine yr ?_|refine yt ?_|refine yf ?_|refine ya e1 ?_|refine yb e1 ?_|refine yo ?_)
   exact ⟨.a (.c (.bool false)),[[.past W ms]],⟨[0],⟨rfl,rfl,rfl⟩,by (repeat first|exact trivial|refine ent1 ?_)⟩,rfl,rfl⟩
 ·have hge:i=n:=by have:¬ (i:Int)<(n:Int):=of_decide_eq_false hge; omega
  have heq:l=l2:=by
   apply List.ext_getElem?
   intro j
   rcases Nat.lt_or_ge j n with hj|hj
   ·exact hall j (by omega)
   ·rw [List.getElem?_eq_none (by omega),List.getElem?_eq_none (by omega)]
  rw [show decide (l=l2)=true from decide_eq_true heq]
  (repeat show _∧_;first|refine yr ?_|refine yt ?_|refine yf ?_|refine yo ?_)
  exact ⟨.a (.c (.bool true)),[[.past W ms]],⟨[0],⟨rfl,rfl,rfl⟩,by (repeat first|exact trivial|refine ent1 ?_)⟩,rfl,rfl⟩
set_option maxRecDepth 20000 in
set_option maxHeartbeats 8000000 in
theorem fn_esame {W:World} {ms:List Nat} {x y:EvC} {e f:Ev} (hx:EvAt W ms x e) (hy:EvAt W ms y f):FnR Tryd.prog tds 15 1 [[.past W ms]] [.agg (evS e x),.agg (evS f y)] (fun _=>True)
  (fun y hs=>y=.a (.c (.bool (decide (sameE e f))))∧hs=[[.past W ms]]):=by
 refine fn_of_body tds_ok follows_ Tryd.func15 rfl (t:=.a (.agg (evS e x))::.a (.agg (evS f y))::anys (Tryd.f15.ntmps-2)) rfl (fun w r0 hr _=>?_)
 obtain ⟨x0,rfl⟩:=List.length_eq_one_iff.1 hr
 by_cases h1:e.k=f.k
 rotate_left
 ·have e1:decide (e.k=f.k)=false:=decide_eq_false h1
  rw [show decide (sameE e f)=false from decide_eq_false fun h=>h1 h.1]
  (repeat show _∧_;first|refine yr ?_|refine yt ?_|refine yf ?_|refine ya e1 ?_|refine yb e1 ?_|refine yo ?_)
  exact ⟨.a (.c (.bool false)),[[.past W ms]],⟨[0],⟨rfl,rfl,rfl⟩,by (repeat first|exact trivial|refine ent1 ?_)⟩,rfl,rfl⟩
 have e1:decide (e.k=f.k)=true:=decide_eq_true h1
 by_cases h2:e.t=f.t
 rotate_left
 ·have e2:decide (e.t=f.t)=false:=decide_eq_false h2
  rw [show decide (sameE e f)=false from decide_eq_false fun h=>h2 h.2.1]
  (repeat show _∧_;first|refine yr ?_|refine yt ?_|refine yf ?_|refine ya e1 ?_|refine yb e1 ?_|refine ya e2 ?_|refine yb e2 ?_|refine yo ?_)
  exact ⟨.a (.c (.bool false)),[[.past W ms]],⟨[0],⟨rfl,rfl,rfl⟩,by (repeat first|exact trivial|refine ent1 ?_)⟩,rfl,rfl⟩
 have e2:decide (e.t=f.t)=true:=decide_eq_true h2
 (repeat show _∧_;first|refine yr ?_|refine yt ?_|refine yf ?_|refine ya e1 ?_|refine yb e1 ?_|refine ya e2 ?_|refine yb e2 ?_|refine yo ?_)
 refine call_same (fn_nequal hx.N hy.N) [0] rfl (by (repeat first|exact trivial|refine ent1 ?_)) (by (repeat first|exact trivial|refine ent1 ?_)) (fun _ _=>trivial) ?_
 rintro y' hs' ⟨rfl,rfl⟩
 by_cases h3:e.N=f.N
 rotate_left
 ·have e3:decide (e.N=f.N)=false:=decide_eq_false h3
  rw [show decide (sameE e f)=false from decide_eq_false fun h=>h3 h.2.2.1]
  (repeat show _∧_;first|refine yr ?_|refine yt ?_|refine yf ?_|refine ya e2 ?_|refine yb e2 ?_|refine ya e3 ?_|refine yb e3 ?_|refine yo ?_)
  exact ⟨.a (.c (.bool false)),[[.past W ms]],⟨[0],⟨rfl,rfl,rfl⟩,by (repeat first|exact trivial|refine ent1 ?_)⟩,rfl,rfl⟩
 have e3:decide (e.N=f.N)=true:=decide_eq_true h3
 (repeat show _∧_;first|refine yr ?_|refine yt ?_|refine yf ?_|refine ya e2 ?_|refine yb e2 ?_|refine ya e3 ?_|refine yb e3 ?_|refine yo ?_)
 refine call_same (fn_bequal hx.D hy.D) [0] rfl (by (repeat first|exact trivial|refine ent1 ?_)) (by (repeat first|exact trivial|refine ent1 ?_)) (fun _ _=>trivial) ?_
 rintro y' hs' ⟨rfl,rfl⟩
 rw [show decide (sameE e f)=decide (e.D=f.D) from decide_eq_decide.2 ⟨fun h=>h.2.2.2,fun h=>⟨h1,h2,h3,h⟩⟩]
 (repeat show _∧_;first|refine yr ?_|refine yt ?_|refine yf ?_|refine ya e3 ?_|refine yb e3 ?_|refine yo ?_)
 exact ⟨.a (.c (.bool (decide (e.D=f.D)))),[[.past W ms]],⟨[0],⟨rfl,rfl,rfl⟩,by (repeat first|exact trivial|refine ent1 ?_)⟩,rfl,rfl⟩
end Sx
end
section
namespace Qj
open Sha Js Ev
theorem hexB_snoc (D:Bs) (c:BitVec 8):hexB (D++[c])=hexB D++[hexd (c.toNat / 16),hexd (c.toNat % 16)]:=by
 unfold hexB; simp
theorem hexB_len (D:Bs):(hexB D).length=2*D.length:=by
 induction D with
 | nil=>rfl
 | cons c D ih=>unfold hexB at ih ⊢; rw [List.flatMap_cons,List.length_append,ih]; simp; omega
theorem hex_lo:∀ c:BitVec 8,(hexS.getD (c &&& 15#8).toNat 0).toBitVec=hexd (c.toNat % 16):=by decide +kernel
theorem hex_hi2:∀ c:BitVec 8,(hexS.getD (c >>> 4).toNat 0).toBitVec=hexd (c.toNat / 16):=by decide +kernel
theorem hi16 (c:BitVec 8):(0:Int)≤((c >>> 4).toNat:Int)∧((c >>> 4).toNat:Int)<((16:Nat):Int):=by
 have:∀ c:BitVec 8,(c >>> 4).toNat<16:=by decide +kernel
 have:=this c
 omega
theorem lo16 (c:BitVec 8):(0:Int)≤((c &&& 15#8).toNat:Int)∧((c &&& 15#8).toNat:Int)<((16:Nat):Int):=by
 have:∀ c:BitVec 8,(c &&& 15#8).toNat<16:=by decide +kernel
 have:=this c
 omega
end Qj
namespace Sx
open Go.RowKit Sha Vi Js Ev Qj

set_option maxRecDepth 20000 in
theorem fn_qfoll {W:World} {ms:List Nat} {x:EvC} {e:Ev} (t:BitVec 64) (l:Bool):FnR Tryd.prog tds 47 1 [[.past W ms]] [.agg (evS e x),.c (.w64 t),.c (.bool l)] (fun _=>True) (fun y hs=>y=.a (.c (.int .i64 (follM e t l)))∧hs=[[.past W ms]]):=by
 refine fn_of_body tds_ok follows_ Tryd.func47 rfl (t:=.a (.agg (evS e x))::.a (.c (.w64 t))::.a (.c (.bool l))::anys (Tryd.f47.ntmps-3)) rfl (fun w r0 hr0 _=>?_)
 obtain ⟨x0,rfl⟩:=len1' hr0
 unfold follM
 by_cases h1:e.t<t
 ·have e1:decide (e.t<t)=true:=decide_eq_true h1
  rw [if_pos h1]
  (repeat show _∧_;first|refine yr ?_|refine yt ?_|refine yf ?_|refine yt ?_ (by first|decide|(rw[e1];decide))|refine yf ?_ (by first|decide|(rw[e1];decide))|refine yo ?_)
  exact ⟨.a (.c (.int .i64 21)),_,⟨[0],⟨rfl,rfl,rfl⟩,by (repeat first|exact trivial|refine ent1 ?_)⟩,rfl,rfl⟩
 have e1:decide (e.t<t)=false:=decide_eq_false h1
 rw [if_neg h1]
 by_cases h2:e.k=19#8
 ·have e2:decide (e.k=19#8)=true:=decide_eq_true h2
  cases l
  ·rw [if_pos ⟨h2,rfl⟩]
   (repeat show _∧_;first|refine yr ?_|refine yt ?_|refine yf ?_|refine yt ?_ (by first|decide|(rw[e1];decide)|(rw[e2];decide))|refine yf ?_ (by first|decide|(rw[e1];decide)|(rw[e2];decide))|refine yo ?_)
   exact ⟨.a (.c (.int .i64 10)),_,⟨[0],⟨rfl,rfl,rfl⟩,by (repeat first|exact trivial|refine ent1 ?_)⟩,rfl,rfl⟩
  ·rw [if_neg (fun h=>Bool.noConfusion h.2)]
   (repeat show _∧_;first|refine yr ?_|refine yt ?_|refine yf ?_|refine yt ?_ (by first|decide|(rw[e1];decide)|(rw[e2];decide))|refine yf ?_ (by first|decide|(rw[e1];decide)|(rw[e2];decide))|refine yo ?_)
   exact ⟨.a (.c (.int .i64 0)),_,⟨[0],⟨rfl,rfl,rfl⟩,by (repeat first|exact trivial|refine ent1 ?_)⟩,rfl,rfl⟩
 ·have e2:decide (e.k=19#8)=false:=decide_eq_false h2
  rw [if_neg (fun h=>h2 h.1)]
  (repeat show _∧_;first|refine yr ?_|refine yt ?_|refine yf ?_|refine yt ?_ (by first|decide|(rw[e1];decide)|(rw[e2];decide))|refine yf ?_ (by first|decide|(rw[e1];decide)|(rw[e2];decide))|refine yo ?_)
  exact ⟨.a (.c (.int .i64 0)),_,⟨[0],⟨rfl,rfl,rfl⟩,by (repeat first|exact trivial|refine ent1 ?_)⟩,rfl,rfl⟩
set_option maxRecDepth 20000 in
theorem fn_qnum1 {W:World} {ms:List Nat} {x:EvC} {e:Ev} (h:EvAt W ms x e) (i:Nat) (hi:i<e.N.length):FnR Tryd.prog tds 33 1 [[.past W ms]] [.agg (evS e x),.c (.int .i64 (i:Int))] (fun _=>True) (fun y hs=>y=.a (.c (.w64 e.N[i]))∧hs=[[.past W ms]]):=by
 have hN:=h.N
 have hn1:=h.nN
 have hNc:=h.N.le
 obtain ⟨aN,nN,cN,aD,nD,cD⟩:=x
 dsimp only at hN hn1 hNc
 refine fn_of_body tds_ok follows_ Tryd.func33 rfl (t:=.a (.agg (evS e ⟨aN,nN,cN,aD,nD,cD⟩))::.a (.c (.int .i64 (i:Int)))::anys (Tryd.f33.ntmps-2)) rfl (fun w r0 hr0 _=>?_)
 obtain ⟨x0,rfl⟩:=len1' hr0
 have e1:decide ((i:Int)<0)=false:=decide_eq_false (by omega)
 have e2:decide ((nN:Int)≤(i:Int))=false:=decide_eq_false (by omega)
 obtain ⟨A,rfl⟩:∃ A,aN=some A:=by
  cases aN with
  | none=>exact absurd (hN.nil rfl) (by omega)
  | some A=>exact ⟨A,rfl⟩
 have him:=(hN.im A rfl (by omega)).one (show (e.N.map SC.w64)[i]?=some (.w64 e.N[i]) by rw [List.getElem?_map,List.getElem?_eq_getElem hi]; rfl)
 (repeat show _∧_;first|refine yr ?_|refine yt ?_|refine yf ?_|refine yt ?_ (by first|decide|(rw[e1];decide)|(rw[e2];decide))|refine yf ?_ (by first|decide|(rw[e1];decide)|(rw[e2];decide))|refine yo ?_)
 (repeat show _∧_;first|refine yr ?_|refine yt ?_|refine yf ?_|refine yt ?_ (by first|decide|(rw[e1];decide)|(rw[e2];decide))|refine yf ?_ (by first|decide|(rw[e1];decide)|(rw[e2];decide))|refine yo ?_)
 refine And.intro (show (0:Int)≤(i:Int)∧(i:Int)<(nN:Int) by omega) ?_
 refine ⟨[.one (.w64 e.N[i])],⟨.past (i:=0) rfl (by show ImAt W ms (A.add (i*1)) _; rw [Nat.mul_one]; exact him),rfl⟩,?_⟩
 (repeat show _∧_;first|refine yr ?_|refine yt ?_|refine yf ?_|refine yo ?_)
 exact ⟨.a (.c (.w64 e.N[i])),_,⟨[0],⟨rfl,rfl,rfl⟩,by (repeat first|exact trivial|refine ent1 ?_)⟩,rfl,rfl⟩
set_option maxRecDepth 20000 in
set_option maxHeartbeats 4000000 in
theorem fn_qdigits {W:World} {ms:List Nat} {a:Option Addr} {n c:Nat} {D:Bs} (h:BsAt W ms a n c D) (hD:D.length≤1000000):FnR Tryd.prog tds 35 1 [[.past W ms]] [.c (.slc a n c)] (fun _=>True) (fun y hs=>y=.a (.c (.str (U8 (hexB D))))∧hs=[[.past W ms]]):=by
 refine fn_of_body tds_ok follows_ Tryd.func35 rfl (t:=.a (.c (.slc a n c))::anys (Tryd.f35.ntmps-1)) rfl (fun w r0 hr0 _=>?_)
 obtain ⟨x0,rfl⟩:=len1' hr0
 have hn:D.length=n:=by have h1:=h.len; simp at h1; omega
 have hle:=h.le
 (repeat show _∧_;first|refine yr ?_|refine yt ?_|refine yf ?_|refine yo ?_)
 refine .inl ⟨Nat × Bs × Option Nat,fun x=>match x with
  | (j,b,none)=>⟨[.any,.any,.a (.c (.str ([]))),.a (.c (.slc none 0 0)),.any,.any,.a (.c (.slc a n c)),.a (.c (.int .i64 (n))),.a (.c (.int .i64 (((j:Nat):Int)))),.any,.any,.any,.any,.any,.any,.any,.any,.any,.any,.any,.any,.any,.any,.any],[[.past W ms]]⟩
  | (j,b,some cc)=>⟨[.any,.any,.a (.c (.str ([]))),.a (.c (.sl 1 0 0 b.length cc)),.any,.any,.a (.c (.slc a n c)),.a (.c (.int .i64 (n))),.a (.c (.int .i64 (((j:Nat):Int)))),.any,.any,.any,.any,.any,.any,.any,.any,.any,.any,.any,.any,.any,.any,.any],[[.past W ms],lsC b cc]⟩,
  fun x=>match x with
  | (j,b,none)=>j=0
  | (j,b,some cc)=>j≤n∧b=hexB (D.take j)∧b.length≤cc,fun x=>n-x.1,⟨(0,[],none),[0],⟨⟨rfl,rfl,rfl⟩,by (repeat first|exact trivial|refine ent1 ?_)⟩,rfl⟩,fun x hx=>?_⟩
 rcases x with ⟨j,b,_|cc⟩
 ·obtain rfl:j=0:=hx
  dsimp only
  by_cases hj:0<n
  rotate_left
  ·have e1:decide (((0:Nat):Int)<(n:Int))=false:=decide_eq_false (by omega)
   have hD0:D=[]:=List.eq_nil_of_length_eq_zero (by omega)
   rw [hD0]
   (repeat show _∧_;first|refine yr ?_|refine yt ?_|refine yf ?_|refine yt ?_ (by first|decide|(rw[e1];decide))|refine yf ?_ (by first|decide|(rw[e1];decide))|refine yo ?_)
   refine ⟨U8 [],⟨rfl,fun q hq=>absurd hq (Nat.not_lt_zero _)⟩,?_⟩
   exact ⟨.a (.c (.str (U8 (hexB [])))),_,⟨[0],⟨rfl,rfl,rfl⟩,by (repeat first|exact trivial|refine ent1 ?_)⟩,rfl,rfl⟩
  have e1:decide (((0:Nat):Int)<(n:Int))=true:=decide_eq_true (by omega)
  obtain ⟨A,rfl⟩:∃ A,a=some A:=by
   cases a with
   | none=>exact absurd (h.nil rfl) (by omega)
   | some A=>exact ⟨A,rfl⟩
  have him:=(h.im A rfl (by omega)).one (show (D.map SC.w8)[0]?=some (.w8 (D[0]'(by omega))) by rw [List.getElem?_map,List.getElem?_eq_getElem (by omega)]; rfl)
  have hst:hexB (D.take (0+1))=[]++[hexd ((D[0]'(by omega)).toNat / 16),hexd ((D[0]'(by omega)).toNat % 16)]:=by
   rw [List.take_add_one,List.getElem?_eq_getElem (by omega),Option.toList_some,hexB_snoc]
   rfl
  generalize (D[0]'(by omega))=ch at him hst
  (repeat show _∧_;first|refine yr ?_|refine yt ?_|refine yf ?_|refine yt ?_ (by first|decide|(rw[e1];decide))|refine yf ?_ (by first|decide|(rw[e1];decide))|refine yo ?_)
  refine ⟨[.one (.w8 ch)],⟨.past (i:=0) rfl (by show ImAt W ms (A.add (0*1)) _; rw [Nat.mul_one]; exact him),rfl⟩,?_⟩
  (repeat show _∧_;first|refine yr ?_|refine yt ?_|refine yf ?_|refine yo ?_)
  refine ⟨none,[],[(0,true),(1,true),(2,true),(3,true),(4,true),(5,true),(6,true),(7,false)],[8,9],by kernel_rfl,?_⟩
  (repeat show _∧_;first|refine yr ?_|refine yt ?_|refine yf ?_|refine yo ?_)
  refine And.intro (show (0:Int)≤((ch >>> 4).toNat:Int)∧((ch >>> 4).toNat:Int)<((16:Nat):Int) from hi16 ch) ?_
  (repeat show _∧_;first|refine yr ?_|refine yt ?_|refine yf ?_|refine yo ?_)
  refine And.intro (show (0:Int)≤((ch &&& 15#8).toNat:Int)∧((ch &&& 15#8).toNat:Int)<((16:Nat):Int) from lo16 ch) ?_
  (repeat show _∧_;first|refine yr ?_|refine yt ?_|refine yf ?_|refine yo ?_)
  intro c1 hc1
  (repeat show _∧_;first|refine yr ?_|refine yt ?_|refine yf ?_|refine yo ?_)
  refine ⟨(1,[hexd (ch.toNat / 16),hexd (ch.toNat % 16)],some c1),[0,2],⟨⟨rfl,rfl,rfl⟩,?_⟩,⟨by omega,hst.symm,hc1⟩,by dsimp only; omega⟩
  dsimp only
  (repeat first|exact trivial|refine ent1 ?_)
  refine ⟨fun j hj=>eqC_bytes (fun i hi=>?_) j,by (repeat first|exact trivial|refine ent1 ?_)⟩
  rw [← hex_hi2 ch,← hex_lo ch] at hi ⊢
  exact new_row (fun i hi=>nthC_w8 _ i hi) i hi
 ·obtain ⟨hj0,hb,hc⟩:=hx
  dsimp only
  by_cases hj:j<n
  rotate_left
  ·have e1:decide (((j:Nat):Int)<(n:Int))=false:=decide_eq_false (by omega)
   have hbD:hexB D=b:=by rw [hb,List.take_of_length_le (by omega)]
   rw [hbD]
   (repeat show _∧_;first|refine yr ?_|refine yt ?_|refine yf ?_|refine yt ?_ (by first|decide|(rw[e1];decide))|refine yf ?_ (by first|decide|(rw[e1];decide))|refine yo ?_)
   refine And.intro (by simp only [scale]; omega) ?_
   refine ⟨U8 b,⟨U8_len b,fun q hq=>by show bytesF b.length (L b) (q+0)=_; rw [Nat.add_zero,bytesF_lt hq,U8_get b q hq]⟩,?_⟩
   exact ⟨.a (.c (.str (U8 b))),_,⟨[0],⟨rfl,rfl,rfl⟩,by (repeat first|exact trivial|refine ent1 ?_)⟩,rfl,rfl⟩
  have e1:decide (((j:Nat):Int)<(n:Int))=true:=decide_eq_true (by omega)
  obtain ⟨A,rfl⟩:∃ A,a=some A:=by
   cases a with
   | none=>exact absurd (h.nil rfl) (by omega)
   | some A=>exact ⟨A,rfl⟩
  have him:=(h.im A rfl (by omega)).one (show (D.map SC.w8)[j]?=some (.w8 (D[j]'(by omega))) by rw [List.getElem?_map,List.getElem?_eq_getElem (by omega)]; rfl)
  have hst:hexB (D.take (j+1))=b++[hexd ((D[j]'(by omega)).toNat / 16),hexd ((D[j]'(by omega)).toNat % 16)]:=by
   rw [List.take_add_one,List.getElem?_eq_getElem (by omega),Option.toList_some,hexB_snoc,hb]
  have hbl:b.length≤2000000:=by rw [hb,hexB_len,List.length_take]; omega
  generalize (D[j]'(by omega))=ch at him hst
  (repeat show _∧_;first|refine yr ?_|refine yt ?_|refine yf ?_|refine yt ?_ (by first|decide|(rw[e1];decide))|refine yf ?_ (by first|decide|(rw[e1];decide))|refine yo ?_)
  refine ⟨[.one (.w8 ch)],⟨.past (i:=0) rfl (by show ImAt W ms (A.add (j*1)) _; rw [Nat.mul_one]; exact him),rfl⟩,?_⟩
  (repeat show _∧_;first|refine yr ?_|refine yt ?_|refine yf ?_|refine yo ?_)
  refine ⟨none,[],[(0,true),(1,true),(2,true),(3,true),(4,true),(5,true),(6,true),(7,false)],[8,9],by kernel_rfl,?_⟩
  (repeat show _∧_;first|refine yr ?_|refine yt ?_|refine yf ?_|refine yo ?_)
  refine And.intro (show (0:Int)≤((ch >>> 4).toNat:Int)∧((ch >>> 4).toNat:Int)<((16:Nat):Int) from hi16 ch) ?_
  (repeat show _∧_;first|refine yr ?_|refine yt ?_|refine yf ?_|refine yo ?_)
  refine And.intro (show (0:Int)≤((ch &&& 15#8).toNat:Int)∧((ch &&& 15#8).toNat:Int)<((16:Nat):Int) from lo16 ch) ?_
  (repeat show _∧_;first|refine yr ?_|refine yt ?_|refine yf ?_|refine yo ?_)
  refine And.intro ⟨hc,by simp only [scale]; omega,by show (b.length+2)*1≤140737488355328; omega⟩ ?_
  intro c1 hc1
  (repeat show _∧_;first|refine yr ?_|refine yt ?_|refine yf ?_|refine yo ?_)
  refine ⟨(j+1,b++[hexd (ch.toNat / 16),hexd (ch.toNat % 16)],some c1),[0,3],⟨⟨rfl,rfl,rfl⟩,?_⟩,⟨hj,hst.symm,by rw [List.length_append]; exact hc1⟩,by dsimp only; omega⟩
  dsimp only
  (repeat first|exact trivial|refine ent1 ?_)
  refine And.intro (show b.length+2=_ by rw [List.length_append]; rfl) ?_
  (repeat first|exact trivial|refine ent1 ?_)
  refine ⟨fun j hj=>eqC_bytes (fun i hi=>?_) j,by (repeat first|exact trivial|refine ent1 ?_)⟩
  have hi':i<b.length+2:=by rw [List.length_append] at hi; exact hi
  rw [← hex_hi2 ch,← hex_lo ch]
  refine app_row (l:=b) (n:=b.length) (k:=2) rfl ?_ (fun i hi=>bytesF_lt hi) (fun i hi=>?_) i hi'
  ·rfl
  ·exact rowl i (by exact hi) rfl
def HexA (o:Option Bs) (y:SV) (hs:List (List Seg)):Prop:=match o with
 | none=>y=.tup [.c (.slc none 0 0),.c (.bool false)]∧hs=[]
 | some []=>y=.tup [.c (.slc none 0 0),.c (.bool true)]∧hs=[]
 | some (d::D)=>∃ c',(d::D).length≤c'∧y=.tup [.c (.sl 0 0 0 (d::D).length c'),.c (.bool true)]∧hs=[lsC (d::D) c']
theorem unhex_odd:∀ {s:Bs},s.length % 2=1→unhex s=none
 | [],h=>by simp at h
 | [_],_=>rfl
 | a::b::l,h=>by
  have ih:=unhex_odd (s:=l) (by simp at h; omega)
  unfold unhex
  rw [ih]
  cases dig1 a <;> cases dig1 b <;> rfl
theorem unhex_step {s:Bs} {j:Nat} (h:j+1<s.length):unhex (s.drop j)=match dig1 (L s j),dig1 (L s (j+1)) with
  | some x,some y=>(unhex (s.drop (j+2))).map ((x <<< 4 ||| y)::·)
  | _,_=>none:=by
 rw [drop_cons s j (by omega),drop_cons s (j+1) h]
 rfl
set_option maxRecDepth 20000 in
set_option maxHeartbeats 8000000 in
theorem fn_qbytes (s:Bs) (hs:s.length≤4611686018427387904) (hs2:s.length≤70368744177664):Fn Tryd.prog tds 52 [] [.c (.str (U8 s))] (fun _=>True) (HexA (unhex s)):=by
 refine fn_of_body tds_ok follows_ Tryd.func52 rfl (t:=.a (.c (.str (U8 s)))::anys (Tryd.f52.ntmps-1)) rfl (fun w r0 hr0 _=>?_)
 obtain rfl:r0=[]:=List.eq_nil_of_length_eq_zero hr0
 by_cases h2:s.length % 2=1
 ·have e0:decide ((((U8 s).length:Nat):Int) % 2≠0)=true:=decide_eq_true (by rw [U8_len]; omega)
  rw [unhex_odd h2]
  (repeat show _∧_;first|refine yr ?_|refine yt ?_|refine yf ?_|refine yt ?_ (by first|decide|(rw[e0];decide))|refine yf ?_ (by first|decide|(rw[e0];decide))|refine yo ?_)
  exact ⟨.tup [.c (.slc none 0 0),.c (.bool false)],_,⟨[],⟨rfl,rfl,rfl⟩,by (repeat first|exact trivial|refine ent1 ?_)⟩,rfl,rfl⟩
 have e0:decide ((((U8 s).length:Nat):Int) % 2≠0)=false:=decide_eq_false (not_not_intro (by rw [U8_len]; omega))
 (repeat show _∧_;first|refine yr ?_|refine yt ?_|refine yf ?_|refine yt ?_ (by first|decide|(rw[e0];decide))|refine yf ?_ (by first|decide|(rw[e0];decide))|refine yo ?_)
 refine .inl ⟨Nat × Bs × Option Nat,fun x=>match x with
  | (j,b,none)=>⟨[.a (.c (.str ((U8 s)))),.any,.any,.any,.a (.c (.slc none 0 0)),.a (.c (.int .i64 (((j:Nat):Int)))),.any,.any,.any,.any,.any,.any,.any,.any,.any,.any,.any,.any,.any,.any,.any,.any,.any,.any,.any,.any,.any,.any,.any,.any,.any,.any,.any,.any,.any,.any,.any,.any,.any,.any,.any,.any,.any,.any,.any,.any,.any,.any,.any],[]⟩
  | (j,b,some cc)=>⟨[.a (.c (.str ((U8 s)))),.any,.any,.any,.a (.c (.sl 0 0 0 b.length cc)),.a (.c (.int .i64 (((j:Nat):Int)))),.any,.any,.any,.any,.any,.any,.any,.any,.any,.any,.any,.any,.any,.any,.any,.any,.any,.any,.any,.any,.any,.any,.any,.any,.any,.any,.any,.any,.any,.any,.any,.any,.any,.any,.any,.any,.any,.any,.any,.any,.any,.any,.any],[lsC b cc]⟩,
  fun x=>match x with
  | (j,b,none)=>j=0
  | (j,b,some cc)=>j≤s.length∧j=2*b.length∧0<j∧unhex s=(unhex (s.drop j)).map (b++·)∧b.length≤cc,fun x=>s.length-x.1,⟨(0,[],none),[],⟨⟨rfl,rfl,rfl⟩,by (repeat first|exact trivial|refine ent1 ?_)⟩,rfl⟩,fun x hx=>?_⟩
 rcases x with ⟨j,b,_|cc⟩
 ·obtain rfl:j=0:=hx
  dsimp only
  by_cases hj:0<s.length
  rotate_left
  ·have e1:decide (((0:Nat):Int)<(((U8 s).length:Nat):Int))=false:=decide_eq_false (by rw [U8_len]; omega)
   have hs0:s=[]:=List.eq_nil_of_length_eq_zero (by omega)
   rw [show unhex s=some [] by rw [hs0]; rfl]
   (repeat show _∧_;first|refine yr ?_|refine yt ?_|refine yf ?_|refine yt ?_ (by first|decide|(rw[e1];decide))|refine yf ?_ (by first|decide|(rw[e1];decide))|refine yo ?_)
   exact ⟨.tup [.c (.slc none 0 0),.c (.bool true)],_,⟨[],⟨rfl,rfl,rfl⟩,by (repeat first|exact trivial|refine ent1 ?_)⟩,rfl,rfl⟩
  have e1:decide (((0:Nat):Int)<(((U8 s).length:Nat):Int))=true:=decide_eq_true (by rw [U8_len]; omega)
  have hj1:0+1<s.length:=by omega
  have hst:=unhex_step hj1
  (repeat show _∧_;first|refine yr ?_|refine yt ?_|refine yf ?_|refine yt ?_ (by first|decide|(rw[e1];decide))|refine yf ?_ (by first|decide|(rw[e1];decide))|refine yo ?_)
  refine And.intro ⟨by omega,by rw [U8_len]; omega⟩ ?_
  rw [show ((U8 s).getD ((0:Nat):Int).toNat 0).toBitVec=L s 0 from U8_get s 0 hj]
  (repeat show _∧_;first|refine yr ?_|refine yt ?_|refine yf ?_|refine yo ?_)
  refine call_same (fn_qdigit (L s 0)) [] rfl (by (repeat first|exact trivial|refine ent1 ?_)) trivial (fun _ _=>trivial) ?_
  rintro y hs9 ⟨rfl,rfl⟩
  (repeat show _∧_;first|refine yr ?_|refine yt ?_|refine yf ?_|refine yo ?_)
  refine And.intro ⟨by omega,by rw [U8_len]; omega⟩ ?_
  rw [show ((U8 s).getD (((0:Nat):Int)+1).toNat 0).toBitVec=L s (0+1) from by rw [show ((((0:Nat):Int)+1).toNat)=0+1 by omega]; exact U8_get s (0+1) hj1]
  (repeat show _∧_;first|refine yr ?_|refine yt ?_|refine yf ?_|refine yo ?_)
  refine call_same (fn_qdigit (L s (0+1))) [] rfl (by (repeat first|exact trivial|refine ent1 ?_)) trivial (fun _ _=>trivial) ?_
  rintro y hs9 ⟨rfl,rfl⟩
  cases ho1:dig1 (L s 0) with
  | none =>
   rw [ho1] at hst
   rw [show unhex s=none from hst]
   (repeat show _∧_;first|refine yr ?_|refine yt ?_|refine yf ?_|refine yo ?_)
   (repeat show _∧_;first|refine yr ?_|refine yt ?_|refine yf ?_|refine yo ?_)
   exact ⟨.tup [.c (.slc none 0 0),.c (.bool false)],_,⟨[],⟨rfl,rfl,rfl⟩,by (repeat first|exact trivial|refine ent1 ?_)⟩,rfl,rfl⟩
  | some x1 =>
  have q1:(!(some x1:Option (BitVec 8)).isSome)=false:=rfl
  cases ho2:dig1 (L s (0+1)) with
  | none =>
   rw [ho1,ho2] at hst
   rw [show unhex s=none from hst]
   (repeat show _∧_;first|refine yr ?_|refine yt ?_|refine yf ?_|refine yt ?_ (by first|decide|(rw[q1];decide))|refine yf ?_ (by first|decide|(rw[q1];decide))|refine yo ?_)
   (repeat show _∧_;first|refine yr ?_|refine yt ?_|refine yf ?_|refine yt ?_ (by first|decide|(rw[q1];decide))|refine yf ?_ (by first|decide|(rw[q1];decide))|refine yo ?_)
   exact ⟨.tup [.c (.slc none 0 0),.c (.bool false)],_,⟨[],⟨rfl,rfl,rfl⟩,by (repeat first|exact trivial|refine ent1 ?_)⟩,rfl,rfl⟩
  | some y1 =>
  have q2:(!(some y1:Option (BitVec 8)).isSome)=false:=rfl
  rw [ho1,ho2] at hst
  dsimp only at hst
  (repeat show _∧_;first|refine yr ?_|refine yt ?_|refine yf ?_|refine yt ?_ (by first|decide|(rw[q1];decide)|(rw[q2];decide))|refine yf ?_ (by first|decide|(rw[q1];decide)|(rw[q2];decide))|refine yo ?_)
  (repeat show _∧_;first|refine yr ?_|refine yt ?_|refine yf ?_|refine yt ?_ (by first|decide|(rw[q1];decide)|(rw[q2];decide))|refine yf ?_ (by first|decide|(rw[q1];decide)|(rw[q2];decide))|refine yo ?_)
  intro c1 hc1
  (repeat show _∧_;first|refine yr ?_|refine yt ?_|refine yf ?_|refine yo ?_)
  refine ⟨(2,[x1 <<< 4 ||| y1],some c1),[1],⟨⟨rfl,rfl,rfl⟩,?_⟩,⟨by omega,rfl,by omega,hst,hc1⟩,by dsimp only; omega⟩
  dsimp only
  (repeat first|exact trivial|refine ent1 ?_)
  refine ⟨fun j hj=>eqC_bytes (fun i hi=>?_) j,by (repeat first|exact trivial|refine ent1 ?_)⟩
  exact new_row (m:=[x1 <<< 4 ||| y1]) (fun i hi=>one_row rfl i hi) i hi
 ·obtain ⟨hj0,hjb,hjp,hu,hc⟩:=hx
  dsimp only
  by_cases hj:j<s.length
  rotate_left
  ·have e1:decide (((j:Nat):Int)<(((U8 s).length:Nat):Int))=false:=decide_eq_false (by rw [U8_len]; omega)
   have hub:unhex s=some b:=by rw [hu,List.drop_eq_nil_of_le (by omega)]; show some (b++[])=some b; rw [List.append_nil]
   obtain ⟨d,D,rfl⟩:∃ d D,b=d::D:=by
    cases b with
    | nil=>simp at hjb; omega
    | cons d D=>exact ⟨d,D,rfl⟩
   rw [hub]
   (repeat show _∧_;first|refine yr ?_|refine yt ?_|refine yf ?_|refine yt ?_ (by first|decide|(rw[e1];decide))|refine yf ?_ (by first|decide|(rw[e1];decide))|refine yo ?_)
   exact ⟨.tup [.c (.sl 0 0 0 (d::D).length cc),.c (.bool true)],_,⟨[0],⟨rfl,rfl,rfl⟩,by (repeat first|exact trivial|refine ent1 ?_)⟩,cc,hc,rfl,rfl⟩
  have e1:decide (((j:Nat):Int)<(((U8 s).length:Nat):Int))=true:=decide_eq_true (by rw [U8_len]; omega)
  have hj1:j+1<s.length:=by omega
  have hst:=unhex_step hj1
  (repeat show _∧_;first|refine yr ?_|refine yt ?_|refine yf ?_|refine yt ?_ (by first|decide|(rw[e1];decide))|refine yf ?_ (by first|decide|(rw[e1];decide))|refine yo ?_)
  refine And.intro ⟨by omega,by rw [U8_len]; omega⟩ ?_
  rw [show ((U8 s).getD ((j:Nat):Int).toNat 0).toBitVec=L s j from U8_get s j hj]
  (repeat show _∧_;first|refine yr ?_|refine yt ?_|refine yf ?_|refine yo ?_)
  refine call_same (fn_qdigit (L s j)) [] rfl (by (repeat first|exact trivial|refine ent1 ?_)) trivial (fun _ _=>trivial) ?_
  rintro y hs9 ⟨rfl,rfl⟩
  (repeat show _∧_;first|refine yr ?_|refine yt ?_|refine yf ?_|refine yo ?_)
  refine And.intro ⟨by omega,by rw [U8_len]; omega⟩ ?_
  rw [show ((U8 s).getD (((j:Nat):Int)+1).toNat 0).toBitVec=L s (j+1) from by rw [show ((((j:Nat):Int)+1).toNat)=j+1 by omega]; exact U8_get s (j+1) hj1]
  (repeat show _∧_;first|refine yr ?_|refine yt ?_|refine yf ?_|refine yo ?_)
  refine call_same (fn_qdigit (L s (j+1))) [] rfl (by (repeat first|exact trivial|refine ent1 ?_)) trivial (fun _ _=>trivial) ?_
  rintro y hs9 ⟨rfl,rfl⟩
  cases ho1:dig1 (L s j) with
  | none =>
   rw [ho1] at hst
   rw [show unhex s=none by rw [hu,hst]; rfl]
   (repeat show _∧_;first|refine yr ?_|refine yt ?_|refine yf ?_|refine yo ?_)
   (repeat show _∧_;first|refine yr ?_|refine yt ?_|refine yf ?_|refine yo ?_)
   exact ⟨.tup [.c (.slc none 0 0),.c (.bool false)],_,⟨[],⟨rfl,rfl,rfl⟩,by (repeat first|exact trivial|refine ent1 ?_)⟩,rfl,rfl⟩
  | some x1 =>
  have q1:(!(some x1:Option (BitVec 8)).isSome)=false:=rfl
  cases ho2:dig1 (L s (j+1)) with
  | none =>
   rw [ho1,ho2] at hst
   rw [show unhex s=none by rw [hu,hst]; rfl]
   (repeat show _∧_;first|refine yr ?_|refine yt ?_|refine yf ?_|refine yt ?_ (by first|decide|(rw[q1];decide))|refine yf ?_ (by first|decide|(rw[q1];decide))|refine yo ?_)
   (repeat show _∧_;first|refine yr ?_|refine yt ?_|refine yf ?_|refine yt ?_ (by first|decide|(rw[q1];decide))|refine yf ?_ (by first|decide|(rw[q1];decide))|refine yo ?_)
   exact ⟨.tup [.c (.slc none 0 0),.c (.bool false)],_,⟨[],⟨rfl,rfl,rfl⟩,by (repeat first|exact trivial|refine ent1 ?_)⟩,rfl,rfl⟩
  | some y1 =>
  have q2:(!(some y1:Option (BitVec 8)).isSome)=false:=rfl
  rw [ho1,ho2] at hst
  dsimp only at hst
  (repeat show _∧_;first|refine yr ?_|refine yt ?_|refine yf ?_|refine yt ?_ (by first|decide|(rw[q1];decide)|(rw[q2];decide))|refine yf ?_ (by first|decide|(rw[q1];decide)|(rw[q2];decide))|refine yo ?_)
  (repeat show _∧_;first|refine yr ?_|refine yt ?_|refine yf ?_|refine yt ?_ (by first|decide|(rw[q1];decide)|(rw[q2];decide))|refine yf ?_ (by first|decide|(rw[q1];decide)|(rw[q2];decide))|refine yo ?_)
  refine And.intro ⟨hc,by simp only [scale]; omega,by show (b.length+1)*1≤140737488355328; omega⟩ ?_
  intro c1 hc1
  (repeat show _∧_;first|refine yr ?_|refine yt ?_|refine yf ?_|refine yo ?_)
  refine ⟨(j+2,b++[x1 <<< 4 ||| y1],some c1),[2],⟨⟨rfl,rfl,rfl⟩,?_⟩,⟨by omega,by rw [List.length_append,List.length_singleton]; omega,by omega,by rw [hu,hst,Option.map_map]; congr 1; funext l; simp,by rw [List.length_append]; exact hc1⟩,by dsimp only; omega⟩
  dsimp only
  (repeat first|exact trivial|refine ent1 ?_)
  refine And.intro (show b.length+1=_ by rw [List.length_append]; rfl) ?_
  (repeat first|exact trivial|refine ent1 ?_)
  refine ⟨fun j hj=>eqC_bytes (fun i hi=>?_) j,by (repeat first|exact trivial|refine ent1 ?_)⟩
  have hi':i<b.length+1:=by rw [List.length_append] at hi; exact hi
  refine app_row (l:=b) (n:=b.length) (k:=1) rfl ?_ (fun i hi=>bytesF_lt hi) (fun i hi=>?_) i hi'
  ·rfl
  ·exact rowl i (by exact hi) rfl
end Sx
end
section
namespace Sx
open Go.RowKit Sha Vi Js Ev Qj

theorem evNm_dec (k:BitVec 8) (s:Bs):decide (evName k=U8 s)=decide (evNm k=s):=decide_eq_decide.2 ⟨fun h=>by
 unfold evNm; rw [h]; exact U8_inj (U8_nsB _),fun h=>by rw [← h]; exact (U8_nsB _).symm⟩
set_option maxRecDepth 20000 in
set_option maxHeartbeats 4000000 in
theorem fn_enamed (s:Bs):Fn Tryd.prog tds 38 [] [.c (.str (U8 s))] (fun _=>True) (fun y hs=>y=.tup [.c (.w8 ((namedM s).getD 0#8)),.c (.bool (namedM s).isSome)]∧hs=[]):=by
 refine fn_of_body tds_ok follows_ Tryd.func38 rfl (t:=.a (.c (.str (U8 s)))::anys (Tryd.f38.ntmps-1)) rfl (fun w r0 hr0 _=>?_)
 obtain rfl:r0=[]:=List.eq_nil_of_length_eq_zero hr0
 (repeat show _∧_;first|refine yr ?_|refine yt ?_|refine yf ?_|refine yo ?_)
 refine .inl ⟨Nat,fun k=>⟨[.a (.c (.str ((U8 s)))),.any,.any,.any,.a (.c (.w8 ((BitVec.ofNat 8 k)))),.any,.any,.any,.any,.any,.any,.any,.any,.any,.any,.any,.any,.any,.any,.any,.any],[]⟩,
  fun k=>1≤k∧k≤20∧namedM s=namedF s (20-k) k,fun k=>20-k,⟨1,[],⟨⟨rfl,rfl,rfl⟩,by (repeat first|exact trivial|refine ent1 ?_)⟩,Nat.le_refl _,by decide,rfl⟩,fun k hk=>?_⟩
 obtain ⟨h1,h2,h3⟩:=hk
 have hkn:(BitVec.ofNat 8 k).toNat=k:=by rw [BitVec.toNat_ofNat]; omega
 by_cases hk20:k=20
 ·subst hk20
  rw [h3]
  (repeat show _∧_;first|refine yr ?_|refine yt ?_|refine yf ?_|refine yo ?_)
  exact ⟨.tup [.c (.w8 0#8),.c (.bool false)],_,⟨[],⟨rfl,rfl,rfl⟩,by (repeat first|exact trivial|refine ent1 ?_)⟩,rfl,rfl⟩
 have e1:decide (BitVec.ofNat 8 k≤19#8)=true:=decide_eq_true (by rw [BitVec.le_def,hkn]; show k≤19; omega)
 have hf:namedF s (20-k) k=if evNm (BitVec.ofNat 8 k)=s then some (BitVec.ofNat 8 k) else namedF s (20-(k+1)) (k+1):=by
  rw [show 20-k=(20-(k+1))+1 by omega]; rfl
 rw [hf] at h3
 (repeat show _∧_;first|refine yr ?_|refine yt ?_|refine yf ?_|refine ya e1 ?_|refine yb e1 ?_|refine yo ?_)
 refine call_same (fn_eof (BitVec.ofNat 8 k)) [] rfl (by (repeat first|exact trivial|refine ent1 ?_)) trivial (fun _ _=>trivial) ?_
 rintro y hs ⟨rfl,rfl⟩
 have hd:=evNm_dec (BitVec.ofNat 8 k) s
 by_cases hs:evNm (BitVec.ofNat 8 k)=s
 ·rw [decide_eq_true hs] at hd
  rw [if_pos hs] at h3
  rw [h3]
  (repeat show _∧_;first|refine yr ?_|refine yt ?_|refine yf ?_|refine ya hd ?_|refine yb hd ?_|refine yo ?_)
  exact ⟨.tup [.c (.w8 (BitVec.ofNat 8 k)),.c (.bool true)],_,⟨[],⟨rfl,rfl,rfl⟩,by (repeat first|exact trivial|refine ent1 ?_)⟩,rfl,rfl⟩
 ·rw [decide_eq_false hs] at hd
  rw [if_neg hs] at h3
  (repeat show _∧_;first|refine yr ?_|refine yt ?_|refine yf ?_|refine ya hd ?_|refine yb hd ?_|refine yo ?_)
  refine ⟨k+1,[],⟨⟨rfl,rfl,rfl⟩,?_⟩,⟨by omega,by omega,h3⟩,by dsimp only; omega⟩
  (repeat first|exact trivial|refine ent1 ?_)
  refine And.intro (show BitVec.ofNat 8 k+1#8=BitVec.ofNat 8 (k+1) by apply BitVec.eq_of_toNat_eq; simp) ?_
  (repeat first|exact trivial|refine ent1 ?_)
end Sx
end
section
namespace Qj
open Sha Js Ev
theorem nums_bad {v:JT} {s:Bs} {l:List Bs} (h:memJ v s 3#8=none):nums v (s::l)=none:=by unfold nums; rw [h]
theorem nums_ok {v x:JT} {s:Bs} {l:List Bs} (h:memJ v s 3#8=some x):nums v (s::l)=(nums v l).map (x.n::·):=by rw [nums,h]
theorem memJ_mem {v x:JT} {s:Bs} {k:BitVec 8} (h:memJ v s k=some x):x∈v.l:=by
 unfold memJ at h
 split at h
 ·cases h
 split at h
 ·cases h
 ·rename_i y hy
  split at h
  ·injection h with h; subst h; exact List.mem_of_getElem? hy
  ·cases h
theorem unhex_len:∀ {s D:Bs},unhex s=some D→D.length≤s.length
 | [],D,h=>by injection h with h; subst h; exact Nat.le_refl _
 | [_],D,h=>by cases h
 | a::b::l,D,h=>by
  unfold unhex at h
  split at h
  ·obtain ⟨E,h1,rfl⟩:=Option.map_eq_some_iff.1 h
   have:=unhex_len h1
   simp; omega
  ·cases h
end Qj
namespace Sx
open Go.RowKit Sha Vi Js Ev Qj

def FillA (W:World) (ms:List Nat) (k:BitVec 8) (t:BitVec 64) (o:Option (List (BitVec 64) × Bs)) (y:SV) (hs:List (List Seg)):Prop:=match o with
 | none=>y=.a (.c (.bool false))∧hs=[[.past W ms],[.one (.w8 k),.one (.w64 t),.one .any,.one .any]]
 | some (N,D)=>y=.a (.c (.bool true))∧∃ x' W' ms',Later W ms W' ms'∧EvAt W' ms' x' ⟨k,t,N,D⟩∧hs=[[.past W' ms'],evS ⟨k,t,N,D⟩ x']
theorem frc_atQ {x y:SC} {k:SC→Prop} (h:x=y) (hk:k y):frcSC x k:=by rw [h,frcSC_eq]; exact hk
theorem bytes_fin {D:Bs} (j:Nat) (x:SC) (h:(D.map SC.w8)[j]?=some x):bytesF D.length (L D) j=x:=by
 rw [List.getElem?_map,Option.map_eq_some_iff] at h
 obtain ⟨b,hb,rfl⟩:=h
 exact bytes_get hb (Nat.le_refl _) D rfl (fun i hi=>rfl)
theorem bytes_finM {g:Nat→Nat} {D:Bs} (j:Nat) (x:SC) (h:(D.map SC.w8)[j]?=some x):SC.mp g (bytesF D.length (L D) j)=x:=by
 rw [bytes_fin j x h]
 rw [List.getElem?_map,Option.map_eq_some_iff] at h
 obtain ⟨b,hb,rfl⟩:=h
 rfl
theorem nums_fin {N:List (BitVec 64)} (j:Nat) (x:SC) (h:(N.map SC.w64)[j]?=some x):numsF N j=x:=by
 rw [List.getElem?_map,Option.map_eq_some_iff] at h
 obtain ⟨b,hb,rfl⟩:=h
 exact nums_get hb
set_option maxRecDepth 20000 in
set_option maxHeartbeats 32000000 in
theorem fn_qfill {d:Nat} {W:World} {ms:List Nat} {v:JT} {x:JC} (hx:TAt W ms (d+1) v x) (hS:∀ y∈v.l,y.s.length≤4194304) (k:BitVec 8) (t:BitVec 64):FnR Tryd.prog tds 39 1 [[.past W ms],[.one (.w8 k),.one (.w64 t),.one (.slc none 0 0),.one (.slc none 0 0)]] [.c (.p 1 0 0),.agg (jvS v x)] (fun _=>True) (FillA W ms k t (fillM k v)):=by
 refine fn_of_bodyW tds_ok follows_ Tryd.func39 rfl (t:=.a (.c (.p 1 0 0))::.a (.agg (jvS v x))::anys (Tryd.f39.ntmps-2)) rfl (fun w r0 hr0 _=>?_)
 obtain ⟨x0,x1,rfl⟩:=len2' hr0
 (repeat show _∧_;first|refine yr ?_|refine yt ?_|refine yf ?_|refine yo ?_)
 refine call_same (fn_eof k) [] rfl (by (repeat first|exact trivial|refine ent1 ?_)) trivial (fun _ _=>trivial) ?_
 rintro y hs ⟨rfl,rfl⟩
 have hdn:(dataNs k).length=(evNames k).length+if evData k=true then 1 else 0:=by unfold dataNs evNs; rw [List.length_append,List.length_map]; split <;> rfl
 have hfm:fillM k v=if hasJ v (dataNs k).length=false then none else match nums v (evNs k) with
  | none=>none
  | some N=>if evData k=true then match memJ v idB 4#8 with
    | none=>none
    | some x=>(unhex x.s).map fun D=>(N,D)
   else some (N,[]):=rfl
 have hle9:(evNames k).length≤9:=by
  have:∀ k:BitVec 8,(evNames k).length≤9:=by decide +kernel
  exact this k
 obtain ⟨l,hl⟩:∃ l,evNames k=l:=⟨_,rfl⟩
 have hns:evNs k=l.map nsB:=by unfold evNs; rw [hl]
 rw [hl] at hle9 hdn ⊢
 rw [hns] at hfm
 clear hns hl
 cases hd:evData k
 ·rw [hd] at hdn hfm
  have hm9:(dataNs k).length=l.length+0:=by rw [hdn,if_neg (by decide)]
  (repeat show _∧_;first|refine yr ?_|refine yt ?_|refine yf ?_|refine yo ?_)
  refine call_same (fn_qhas hx (l.length+0)) [0] rfl (by (repeat first|exact trivial|refine ent1 ?_)) (by (repeat first|exact trivial|refine ent1 ?_)) (fun _ _=>trivial) ?_
  rintro y hs ⟨rfl,rfl⟩
  rw [hm9] at hfm
  cases hh:hasJ v (l.length+0)
  ·rw [hh,if_pos rfl] at hfm
   rw [hfm]
   (repeat show _∧_;first|refine yr ?_|refine yt ?_|refine yf ?_|refine yo ?_)
   exact FinW.of ⟨.a (.c (.bool false)),_,⟨[0,1],⟨rfl,rfl,rfl⟩,by (repeat first|exact trivial|refine ent1 ?_)⟩,rfl,rfl⟩
  rw [hh,if_neg (by decide)] at hfm
  cases l with
  | nil =>
   (repeat show _∧_;first|refine yr ?_|refine yt ?_|refine yf ?_|refine yo ?_)
   refine .inr ⟨1,?_⟩
   (repeat show _∧_;first|refine yr ?_|refine yt ?_|refine yf ?_|refine yo ?_)
   have hfm:fillM k v=(match (some []:Option (List (BitVec 64))) with
     | none=>none
     | some N=>if false=true then match memJ v idB 4#8 with
       | none=>none
       | some x=>(unhex x.s).map fun D=>(N,D)
      else some (N,[])):=hfm
   dsimp only at hfm
   rw [if_neg (by decide)] at hfm
   rw [hfm]
   (repeat show _∧_;first|refine yr ?_|refine yt ?_|refine yf ?_|refine yo ?_)
   refine finW_frz [0,1] rfl (Nat.zero_lt_one) cx0_m rfl (fun W' ms' α hL hI=>?_)
   refine ⟨.a (.c (.bool true)),[evS ⟨k,t,[],[]⟩ ⟨none,0,0,none,0,0⟩],⟨⟨rfl,rfl,rfl⟩,?_⟩,rfl,⟨none,0,0,none,0,0⟩,W',ms',hL,⟨SlAt.nul,SlAt.nul⟩,rfl⟩
   (repeat first|exact trivial|refine ent1 ?_)
  | cons nm0 l0 =>
  obtain ⟨l,hl⟩:∃ l,nm0::l0=l:=⟨_,rfl⟩
  have hl0:0<l.length:=by rw [← hl]; simp
  have hstB:stB (nm0::l0)=[.row l.length (strsF l)]:=by rw [← hl]; rfl
  have hstC:∀ i,stC i (nm0::l0)=.sn false i 0 0 l.length l.length:=by intro i; rw [← hl]; rfl
  rw [hstB,hstC,hl]
  rw [hl] at hfm hle9 hh hdn hm9
  clear hstB hstC hl
  (repeat show _∧_;first|refine yr ?_|refine yt ?_|refine yf ?_|refine yo ?_)
  refine .inl ⟨Nat × List (BitVec 64) × Option Nat,fun y=>match y with
   | (j,N,none)=>⟨[.a (.c (.p 1 0 0)),.any,.any,.a (.c (.p 2 0 0)),.a (.c (.bool (false))),.a (.c (.p 4 0 0)),.any,.any,.any,.any,.any,.any,.any,.any,.any,.any,.any,.any,.any,.any,.any,.any,.any,.any,.any,.any,.any,.any,.any,.any,.any,.any,.any,.any,.a (.c (.sn false 3 0 0 l.length l.length)),.a (.c (.int .i64 (l.length))),.a (.c (.int .i64 (((j:Nat):Int)))),.any,.any,.any,.any,.any,.any,.any,.any,.any,.any,.any,.any,.any,.any,.any,.any,.any,.any,.any,.any,.any,.any,.any,.any,.any,.any,.any,.any,.any,.any,.any,.any,.any,.any,.any,.any,.any,.any,.any,.any,.any,.any],[[.past W ms],[.one (.w8 k),.one (.w64 t),.one (.slc none 0 0),.one (.slc none 0 0)],jvS v x,[.row l.length (strsF l)],[.one (.str (evName k)),.one (.sn false 3 0 0 l.length l.length),.one (.bool false)]]⟩
   | (j,N,some c)=>⟨[.a (.c (.p 1 0 0)),.any,.any,.a (.c (.p 2 0 0)),.a (.c (.bool (false))),.a (.c (.p 4 0 0)),.any,.any,.any,.any,.any,.any,.any,.any,.any,.any,.any,.any,.any,.any,.any,.any,.any,.any,.any,.any,.any,.any,.any,.any,.any,.any,.any,.any,.a (.c (.sn false 3 0 0 l.length l.length)),.a (.c (.int .i64 (l.length))),.a (.c (.int .i64 (((j:Nat):Int)))),.any,.any,.any,.any,.any,.any,.any,.any,.any,.any,.any,.any,.any,.any,.any,.any,.any,.any,.any,.any,.any,.any,.any,.any,.any,.any,.any,.any,.any,.any,.any,.any,.any,.any,.any,.any,.any,.any,.any,.any,.any,.any],[[.past W ms],[.one (.w8 k),.one (.w64 t),.one (.sl 5 0 0 N.length c),.one (.slc none 0 0)],jvS v x,[.row l.length (strsF l)],[.one (.str (evName k)),.one (.sn false 3 0 0 l.length l.length),.one (.bool false)],[.row c (numsF N)]]⟩,
   fun y=>match y with
   | (j,N,none)=>j=0∧N=[]
   | (j,N,some c)=>j≤l.length∧0<j∧N.length=j∧N.length≤c∧nums v (l.map nsB)=(nums v ((l.map nsB).drop j)).map (N++·),fun y=>l.length-y.1,⟨(0,[],none),[0,1,2,3,4],⟨⟨rfl,rfl,rfl⟩,?_⟩,rfl,rfl⟩,fun y hy=>?_⟩
  ·(repeat first|exact trivial|refine ent1 ?_)
   exact ⟨fun j hj=>eqC_strsM l hj,by (repeat first|exact trivial|refine ent1 ?_)⟩
  rcases y with ⟨j,N,_|c⟩
  ·obtain ⟨rfl,rfl⟩:=hy
   dsimp only
   have hj:0<l.length:=hl0
   have e1:decide (((0:Nat):Int)<(l.length:Int))=true:=decide_eq_true (by omega)
   have hdr:(l.map nsB).drop 0=nsB (l[0]'hj)::(l.map nsB).drop (0+1):=by rw [List.drop_eq_getElem_cons (by rw [List.length_map]; exact hj),List.getElem_map]
   have hsj:strsF l 0=.str (U8 (nsB (l[0]'hj))):=by rw [U8_nsB]; obtain ⟨s,h1,h2⟩:=nthC_str l 0 hj; rw [List.getElem?_eq_getElem hj] at h2; injection h2 with h2; rw [h2]; exact h1
   generalize (l[0]'hj)=nm at hdr hsj
   (repeat show _∧_;first|refine yr ?_|refine yt ?_|refine yf ?_|refine ya e1 ?_|refine yb e1 ?_|refine yo ?_)
   refine frc_atQ (y:=.str (U8 (nsB nm))) (by exact hsj) ?_
   (repeat show _∧_;first|refine yr ?_|refine yt ?_|refine yf ?_|refine yo ?_)
   refine call_same (fn_qmember hx (nsB nm) 3#8) [0] rfl (by (repeat first|exact trivial|refine ent1 ?_)) (by (repeat first|exact trivial|refine ent1 ?_)) (fun _ _=>trivial) ?_
   rintro y hs ⟨rfl,hm⟩
   have hnu:nums v (l.map nsB)=(nums v ((l.map nsB).drop 0)).map ([]++·):=by rw [List.drop_zero]; simp
   rw [hdr] at hnu
   cases hz:memJ v (nsB nm) 3#8 with
   | none =>
    rw [hz] at hm
    obtain rfl:y=_:=hm
    rw [nums_bad hz] at hnu
    rw [show nums v (l.map nsB)=none from hnu] at hfm
    rw [show fillM k v=none from hfm]
    (repeat show _∧_;first|refine yr ?_|refine yt ?_|refine yf ?_|refine yo ?_)
    exact FinW.of ⟨.a (.c (.bool false)),_,⟨[0,1],⟨rfl,rfl,rfl⟩,by (repeat first|exact trivial|refine ent1 ?_)⟩,rfl,rfl⟩
   | some z =>
   rw [hz] at hm
   obtain ⟨xz,hxz,rfl⟩:=hm
   rw [nums_ok hz,Option.map_map] at hnu
   (repeat show _∧_;first|refine yr ?_|refine yt ?_|refine yf ?_|refine yo ?_)
   refine ⟨none,[],[(0,true),(1,true),(2,true),(3,true),(4,true),(5,true),(6,true),(7,false)],[8,9,10,11],by kernel_rfl,?_⟩
   (repeat show _∧_;first|refine yr ?_|refine yt ?_|refine yf ?_|refine yo ?_)
   intro c1 hc1
   (repeat show _∧_;first|refine yr ?_|refine yt ?_|refine yf ?_|refine yo ?_)
   refine ⟨(1,[z.n],some c1),[0,1,2,3,4,7],⟨⟨rfl,rfl,rfl⟩,?_⟩,⟨hl0,Nat.zero_lt_one,rfl,hc1,hnu⟩,by dsimp only; omega⟩
   dsimp only
   (repeat first|exact trivial|refine ent1 ?_)
   refine ⟨fun j hj=>eqC_strs l hj,?_⟩
   (repeat first|exact trivial|refine ent1 ?_)
   exact ⟨fun j hj=>eqC_nums (fun j x h=>new_nums rfl j x h) j,by (repeat first|exact trivial|refine ent1 ?_)⟩
  ·obtain ⟨hj0,hjp,hNl,hc,hnu⟩:=hy
   dsimp only
   by_cases hj:j<l.length
   rotate_left
   ·have e1:decide ((j:Int)<(l.length:Int))=false:=decide_eq_false (by omega)
    rw [List.drop_eq_nil_of_le (by rw [List.length_map]; omega)] at hnu
    have hnu:nums v (l.map nsB)=some N:=by rw [hnu]; show some (N++[])=some N; rw [List.append_nil]
    rw [hnu] at hfm
    dsimp only at hfm
    (repeat show _∧_;first|refine yr ?_|refine yt ?_|refine yf ?_|refine ya e1 ?_|refine yb e1 ?_|refine yo ?_)
    rw [if_neg (by decide)] at hfm
    rw [hfm]
    (repeat show _∧_;first|refine yr ?_|refine yt ?_|refine yf ?_|refine yo ?_)
    refine finW_frz [0,1] rfl (Nat.zero_lt_one) cx0_m rfl (fun W' ms' α hL hI=>?_)
    refine ⟨.a (.c (.bool true)),[evS ⟨k,t,N,[]⟩ ⟨some ((α 5).add (0+0)),N.length,c,none,0,0⟩],⟨⟨rfl,rfl,rfl⟩,?_⟩,rfl,⟨some ((α 5).add (0+0)),N.length,c,none,0,0⟩,W',ms',hL,⟨SlAt.frz (F:=fun j=>!memB j [0,1]) (hI 5 rfl) rfl hc (show N.length≤9223372036854775807 by omega) (by decide) (by simp) nums_fin (rz_w64 _),SlAt.nul⟩,rfl⟩
    (repeat first|exact trivial|refine ent1 ?_)
   have e1:decide (((j:Nat):Int)<(l.length:Int))=true:=decide_eq_true (by omega)
   have hdr:(l.map nsB).drop j=nsB (l[j]'hj)::(l.map nsB).drop (j+1):=by rw [List.drop_eq_getElem_cons (by rw [List.length_map]; exact hj),List.getElem_map]
   have hsj:strsF l j=.str (U8 (nsB (l[j]'hj))):=by rw [U8_nsB]; obtain ⟨s,h1,h2⟩:=nthC_str l j hj; rw [List.getElem?_eq_getElem hj] at h2; injection h2 with h2; rw [h2]; exact h1
   generalize (l[j]'hj)=nm at hdr hsj
   (repeat show _∧_;first|refine yr ?_|refine yt ?_|refine yf ?_|refine ya e1 ?_|refine yb e1 ?_|refine yo ?_)
   refine frc_atQ (y:=.str (U8 (nsB nm))) (by exact hsj) ?_
   (repeat show _∧_;first|refine yr ?_|refine yt ?_|refine yf ?_|refine yo ?_)
   refine call_same (fn_qmember hx (nsB nm) 3#8) [0] rfl (by (repeat first|exact trivial|refine ent1 ?_)) (by (repeat first|exact trivial|refine ent1 ?_)) (fun _ _=>trivial) ?_
   rintro y hs ⟨rfl,hm⟩
   rw [hdr] at hnu
   cases hz:memJ v (nsB nm) 3#8 with
   | none =>
    rw [hz] at hm
    obtain rfl:y=_:=hm
    rw [nums_bad hz] at hnu
    rw [show nums v (l.map nsB)=none from hnu] at hfm
    rw [show fillM k v=none from hfm]
    (repeat show _∧_;first|refine yr ?_|refine yt ?_|refine yf ?_|refine yo ?_)
    exact FinW.of ⟨.a (.c (.bool false)),_,⟨[0,1],⟨rfl,rfl,rfl⟩,by (repeat first|exact trivial|refine ent1 ?_)⟩,rfl,rfl⟩
   | some z =>
   rw [hz] at hm
   obtain ⟨xz,hxz,rfl⟩:=hm
   rw [nums_ok hz,Option.map_map] at hnu
   (repeat show _∧_;first|refine yr ?_|refine yt ?_|refine yf ?_|refine yo ?_)
   refine ⟨none,[],[(0,true),(1,true),(2,true),(3,true),(4,true),(5,true),(6,true),(7,false)],[8,9,10,11],by kernel_rfl,?_⟩
   (repeat show _∧_;first|refine yr ?_|refine yt ?_|refine yf ?_|refine yo ?_)
   refine And.intro ⟨hc,by simp only [scale]; omega,by show (N.length+1)*8≤140737488355328; omega⟩ ?_
   intro c1 hc1
   (repeat show _∧_;first|refine yr ?_|refine yt ?_|refine yf ?_|refine yo ?_)
   refine ⟨(j+1,N++[z.n],some c1),[0,1,2,3,4,8],⟨⟨rfl,rfl,rfl⟩,?_⟩,⟨hj,by omega,by rw [List.length_append,hNl]; rfl,by rw [List.length_append]; exact hc1,by rw [hnu]; congr 1; funext l; simp⟩,by dsimp only; omega⟩
   dsimp only
   (repeat first|exact trivial|refine ent1 ?_)
   refine And.intro (show N.length+1=_ by rw [List.length_append]; rfl) ?_
   (repeat first|exact trivial|refine ent1 ?_)
   refine ⟨fun j hj=>eqC_strs l hj,?_⟩
   (repeat first|exact trivial|refine ent1 ?_)
   exact ⟨fun j hj=>eqC_nums (fun j x h=>app_nums rfl (fun j x h=>nums_get h) rfl j x h) j,by (repeat first|exact trivial|refine ent1 ?_)⟩
 ·rw [hd] at hdn hfm
  have hm9:(dataNs k).length=l.length+1:=by rw [hdn,if_pos rfl]
  (repeat show _∧_;first|refine yr ?_|refine yt ?_|refine yf ?_|refine yo ?_)
  refine call_same (fn_qhas hx (l.length+1)) [0] rfl (by (repeat first|exact trivial|refine ent1 ?_)) (by (repeat first|exact trivial|refine ent1 ?_)) (fun _ _=>trivial) ?_
  rintro y hs ⟨rfl,rfl⟩
  rw [hm9] at hfm
  cases hh:hasJ v (l.length+1)
  ·rw [hh,if_pos rfl] at hfm
   rw [hfm]
   (repeat show _∧_;first|refine yr ?_|refine yt ?_|refine yf ?_|refine yo ?_)
   exact FinW.of ⟨.a (.c (.bool false)),_,⟨[0,1],⟨rfl,rfl,rfl⟩,by (repeat first|exact trivial|refine ent1 ?_)⟩,rfl,rfl⟩
  rw [hh,if_neg (by decide)] at hfm
  cases l with
  | nil =>
   (repeat show _∧_;first|refine yr ?_|refine yt ?_|refine yf ?_|refine yo ?_)
   refine .inr ⟨1,?_⟩
   (repeat show _∧_;first|refine yr ?_|refine yt ?_|refine yf ?_|refine yo ?_)
   have hfm:fillM k v=(match (some []:Option (List (BitVec 64))) with
     | none=>none
     | some N=>if true=true then match memJ v idB 4#8 with
       | none=>none
       | some x=>(unhex x.s).map fun D=>(N,D)
      else some (N,[])):=hfm
   dsimp only at hfm
   rw [if_pos rfl] at hfm
   (repeat show _∧_;first|refine yr ?_|refine yt ?_|refine yf ?_|refine yo ?_)
   refine call_same (fn_qmember hx idB 4#8) [0] rfl (by (repeat first|exact trivial|refine ent1 ?_)) (by (repeat first|exact trivial|refine ent1 ?_)) (fun _ _=>trivial) ?_
   rintro y hs ⟨rfl,hm⟩
   cases hz:memJ v idB 4#8 with
   | none =>
    rw [hz] at hm hfm
    obtain rfl:y=_:=hm
    rw [show fillM k v=none from hfm]
    (repeat show _∧_;first|refine yr ?_|refine yt ?_|refine yf ?_|refine yo ?_)
    exact FinW.of ⟨.a (.c (.bool false)),_,⟨[0,1],⟨rfl,rfl,rfl⟩,by (repeat first|exact trivial|refine ent1 ?_)⟩,rfl,rfl⟩
   | some z =>
   rw [hz] at hm hfm
   obtain ⟨xz,hxz,rfl⟩:=hm
   dsimp only at hfm
   have hzs:=hS z (memJ_mem hz)
   (repeat show _∧_;first|refine yr ?_|refine yt ?_|refine yf ?_|refine yo ?_)
   refine call_same (fn_qbytes z.s (by omega) (by omega)) [] rfl (by (repeat first|exact trivial|refine ent1 ?_)) trivial (fun _ _=>trivial) ?_
   intro y hs hH
   rcases hu:unhex z.s with _|_|⟨b0,D0⟩
   ·rw [hu] at hH hfm
    obtain ⟨rfl,rfl⟩:=hH
    rw [show fillM k v=none from hfm]
    (repeat show _∧_;first|refine yr ?_|refine yt ?_|refine yf ?_|refine yo ?_)
    exact FinW.of ⟨.a (.c (.bool false)),_,⟨[0,1],⟨rfl,rfl,rfl⟩,by (repeat first|exact trivial|refine ent1 ?_)⟩,rfl,rfl⟩
   ·rw [hu] at hH hfm
    obtain ⟨rfl,rfl⟩:=hH
    rw [show fillM k v=some ([],[]) from hfm]
    (repeat show _∧_;first|refine yr ?_|refine yt ?_|refine yf ?_|refine yo ?_)
    refine finW_frz [0,1] rfl (Nat.zero_lt_one) cx0_m rfl (fun W' ms' α hL hI=>?_)
    refine ⟨.a (.c (.bool true)),[evS ⟨k,t,[],[]⟩ ⟨none,0,0,none,0,0⟩],⟨⟨rfl,rfl,rfl⟩,?_⟩,rfl,⟨none,0,0,none,0,0⟩,W',ms',hL,⟨SlAt.nul,SlAt.nul⟩,rfl⟩
    (repeat first|exact trivial|refine ent1 ?_)
   ·rw [hu] at hH hfm
    obtain ⟨c2,hc2,rfl,rfl⟩:=hH
    rw [show fillM k v=some ([],b0::D0) from hfm]
    have hDl:=unhex_len hu
    (repeat show _∧_;first|refine yr ?_|refine yt ?_|refine yf ?_|refine yo ?_)
    refine finW_frz [0,1] rfl (Nat.zero_lt_one) cx0_m rfl (fun W' ms' α hL hI=>?_)
    refine ⟨.a (.c (.bool true)),[evS ⟨k,t,[],b0::D0⟩ ⟨none,0,0,some ((α 6).add (0+0)),(b0::D0).length,c2⟩],⟨⟨rfl,rfl,rfl⟩,?_⟩,rfl,⟨none,0,0,some ((α 6).add (0+0)),(b0::D0).length,c2⟩,W',ms',hL,⟨SlAt.nul,SlAt.frz (F:=fun j=>!memB j [0,1]) (hI 6 rfl) rfl hc2 (show (b0::D0).length≤9223372036854775807 by omega) (by decide) (by simp) bytes_finM (rz_w8 _)⟩,rfl⟩
    (repeat first|exact trivial|refine ent1 ?_)
  | cons nm0 l0 =>
  obtain ⟨l,hl⟩:∃ l,nm0::l0=l:=⟨_,rfl⟩
  have hl0:0<l.length:=by rw [← hl]; simp
  have hstB:stB (nm0::l0)=[.row l.length (strsF l)]:=by rw [← hl]; rfl
  have hstC:∀ i,stC i (nm0::l0)=.sn false i 0 0 l.length l.length:=by intro i; rw [← hl]; rfl
  rw [hstB,hstC,hl]
  rw [hl] at hfm hle9 hh hdn hm9
  clear hstB hstC hl
  (repeat show _∧_;first|refine yr ?_|refine yt ?_|refine yf ?_|refine yo ?_)
  refine .inl ⟨Nat × List (BitVec 64) × Option Nat,fun y=>match y with
   | (j,N,none)=>⟨[.a (.c (.p 1 0 0)),.any,.any,.a (.c (.p 2 0 0)),.a (.c (.bool (false))),.a (.c (.p 4 0 0)),.any,.any,.any,.any,.any,.any,.any,.any,.any,.any,.any,.any,.any,.any,.any,.any,.any,.any,.any,.any,.any,.any,.any,.any,.any,.any,.any,.any,.a (.c (.sn false 3 0 0 l.length l.length)),.a (.c (.int .i64 (l.length))),.a (.c (.int .i64 (((j:Nat):Int)))),.any,.any,.any,.any,.any,.any,.any,.any,.any,.any,.any,.any,.any,.any,.any,.any,.any,.any,.any,.any,.any,.any,.any,.any,.any,.any,.any,.any,.any,.any,.any,.any,.any,.any,.any,.any,.any,.any,.any,.any,.any,.any],[[.past W ms],[.one (.w8 k),.one (.w64 t),.one (.slc none 0 0),.one (.slc none 0 0)],jvS v x,[.row l.length (strsF l)],[.one (.str (evName k)),.one (.sn false 3 0 0 l.length l.length),.one (.bool true)]]⟩
   | (j,N,some c)=>⟨[.a (.c (.p 1 0 0)),.any,.any,.a (.c (.p 2 0 0)),.a (.c (.bool (false))),.a (.c (.p 4 0 0)),.any,.any,.any,.any,.any,.any,.any,.any,.any,.any,.any,.any,.any,.any,.any,.any,.any,.any,.any,.any,.any,.any,.any,.any,.any,.any,.any,.any,.a (.c (.sn false 3 0 0 l.length l.length)),.a (.c (.int .i64 (l.length))),.a (.c (.int .i64 (((j:Nat):Int)))),.any,.any,.any,.any,.any,.any,.any,.any,.any,.any,.any,.any,.any,.any,.any,.any,.any,.any,.any,.any,.any,.any,.any,.any,.any,.any,.any,.any,.any,.any,.any,.any,.any,.any,.any,.any,.any,.any,.any,.any,.any,.any],[[.past W ms],[.one (.w8 k),.one (.w64 t),.one (.sl 5 0 0 N.length c),.one (.slc none 0 0)],jvS v x,[.row l.length (strsF l)],[.one (.str (evName k)),.one (.sn false 3 0 0 l.length l.length),.one (.bool true)],[.row c (numsF N)]]⟩,
   fun y=>match y with
   | (j,N,none)=>j=0∧N=[]
   | (j,N,some c)=>j≤l.length∧0<j∧N.length=j∧N.length≤c∧nums v (l.map nsB)=(nums v ((l.map nsB).drop j)).map (N++·),fun y=>l.length-y.1,⟨(0,[],none),[0,1,2,3,4],⟨⟨rfl,rfl,rfl⟩,?_⟩,rfl,rfl⟩,fun y hy=>?_⟩
  ·(repeat first|exact trivial|refine ent1 ?_)
   exact ⟨fun j hj=>eqC_strsM l hj,by (repeat first|exact trivial|refine ent1 ?_)⟩
  rcases y with ⟨j,N,_|c⟩
  ·obtain ⟨rfl,rfl⟩:=hy
   dsimp only
   have hj:0<l.length:=hl0
   have e1:decide (((0:Nat):Int)<(l.length:Int))=true:=decide_eq_true (by omega)
   have hdr:(l.map nsB).drop 0=nsB (l[0]'hj)::(l.map nsB).drop (0+1):=by rw [List.drop_eq_getElem_cons (by rw [List.length_map]; exact hj),List.getElem_map]
   have hsj:strsF l 0=.str (U8 (nsB (l[0]'hj))):=by rw [U8_nsB]; obtain ⟨s,h1,h2⟩:=nthC_str l 0 hj; rw [List.getElem?_eq_getElem hj] at h2; injection h2 with h2; rw [h2]; exact h1
   generalize (l[0]'hj)=nm at hdr hsj
   (repeat show _∧_;first|refine yr ?_|refine yt ?_|refine yf ?_|refine ya e1 ?_|refine yb e1 ?_|refine yo ?_)
   refine frc_atQ (y:=.str (U8 (nsB nm))) (by exact hsj) ?_
   (repeat show _∧_;first|refine yr ?_|refine yt ?_|refine yf ?_|refine yo ?_)
   refine call_same (fn_qmember hx (nsB nm) 3#8) [0] rfl (by (repeat first|exact trivial|refine ent1 ?_)) (by (repeat first|exact trivial|refine ent1 ?_)) (fun _ _=>trivial) ?_
   rintro y hs ⟨rfl,hm⟩
   have hnu:nums v (l.map nsB)=(nums v ((l.map nsB).drop 0)).map ([]++·):=by rw [List.drop_zero]; simp
   rw [hdr] at hnu
   cases hz:memJ v (nsB nm) 3#8 with
   | none =>
    rw [hz] at hm
    obtain rfl:y=_:=hm
    rw [nums_bad hz] at hnu
    rw [show nums v (l.map nsB)=none from hnu] at hfm
    rw [show fillM k v=none from hfm]
    (repeat show _∧_;first|refine yr ?_|refine yt ?_|refine yf ?_|refine yo ?_)
    exact FinW.of ⟨.a (.c (.bool false)),_,⟨[0,1],⟨rfl,rfl,rfl⟩,by (repeat first|exact trivial|refine ent1 ?_)⟩,rfl,rfl⟩
   | some z =>
   rw [hz] at hm
   obtain ⟨xz,hxz,rfl⟩:=hm
   rw [nums_ok hz,Option.map_map] at hnu
   (repeat show _∧_;first|refine yr ?_|refine yt ?_|refine yf ?_|refine yo ?_)
   refine ⟨none,[],[(0,true),(1,true),(2,true),(3,true),(4,true),(5,true),(6,true),(7,false)],[8,9,10,11],by kernel_rfl,?_⟩
   (repeat show _∧_;first|refine yr ?_|refine yt ?_|refine yf ?_|refine yo ?_)
   intro c1 hc1
   (repeat show _∧_;first|refine yr ?_|refine yt ?_|refine yf ?_|refine yo ?_)
   refine ⟨(1,[z.n],some c1),[0,1,2,3,4,7],⟨⟨rfl,rfl,rfl⟩,?_⟩,⟨hl0,Nat.zero_lt_one,rfl,hc1,hnu⟩,by dsimp only; omega⟩
   dsimp only
   (repeat first|exact trivial|refine ent1 ?_)
   refine ⟨fun j hj=>eqC_strs l hj,?_⟩
   (repeat first|exact trivial|refine ent1 ?_)
   exact ⟨fun j hj=>eqC_nums (fun j x h=>new_nums rfl j x h) j,by (repeat first|exact trivial|refine ent1 ?_)⟩
  ·obtain ⟨hj0,hjp,hNl,hc,hnu⟩:=hy
   dsimp only
   by_cases hj:j<l.length
   rotate_left
   ·have e1:decide ((j:Int)<(l.length:Int))=false:=decide_eq_false (by omega)
    rw [List.drop_eq_nil_of_le (by rw [List.length_map]; omega)] at hnu
    have hnu:nums v (l.map nsB)=some N:=by rw [hnu]; show some (N++[])=some N; rw [List.append_nil]
    rw [hnu] at hfm
    dsimp only at hfm
    (repeat show _∧_;first|refine yr ?_|refine yt ?_|refine yf ?_|refine ya e1 ?_|refine yb e1 ?_|refine yo ?_)
    rw [if_pos rfl] at hfm
    (repeat show _∧_;first|refine yr ?_|refine yt ?_|refine yf ?_|refine yo ?_)
    refine call_same (fn_qmember hx idB 4#8) [0] rfl (by (repeat first|exact trivial|refine ent1 ?_)) (by (repeat first|exact trivial|refine ent1 ?_)) (fun _ _=>trivial) ?_
    rintro y hs ⟨rfl,hm⟩
    cases hz:memJ v idB 4#8 with
    | none =>
     rw [hz] at hm hfm
     obtain rfl:y=_:=hm
     rw [show fillM k v=none from hfm]
     (repeat show _∧_;first|refine yr ?_|refine yt ?_|refine yf ?_|refine yo ?_)
     exact FinW.of ⟨.a (.c (.bool false)),_,⟨[0,1],⟨rfl,rfl,rfl⟩,by (repeat first|exact trivial|refine ent1 ?_)⟩,rfl,rfl⟩
    | some z =>
    rw [hz] at hm hfm
    obtain ⟨xz,hxz,rfl⟩:=hm
    dsimp only at hfm
    have hzs:=hS z (memJ_mem hz)
    (repeat show _∧_;first|refine yr ?_|refine yt ?_|refine yf ?_|refine yo ?_)
    refine call_same (fn_qbytes z.s (by omega) (by omega)) [] rfl (by (repeat first|exact trivial|refine ent1 ?_)) trivial (fun _ _=>trivial) ?_
    intro y hs hH
    rcases hu:unhex z.s with _|_|⟨b0,D0⟩
    ·rw [hu] at hH hfm
     obtain ⟨rfl,rfl⟩:=hH
     rw [show fillM k v=none from hfm]
     (repeat show _∧_;first|refine yr ?_|refine yt ?_|refine yf ?_|refine yo ?_)
     exact FinW.of ⟨.a (.c (.bool false)),_,⟨[0,1],⟨rfl,rfl,rfl⟩,by (repeat first|exact trivial|refine ent1 ?_)⟩,rfl,rfl⟩
    ·rw [hu] at hH hfm
     obtain ⟨rfl,rfl⟩:=hH
     rw [show fillM k v=some (N,[]) from hfm]
     (repeat show _∧_;first|refine yr ?_|refine yt ?_|refine yf ?_|refine yo ?_)
     refine finW_frz [0,1] rfl (Nat.zero_lt_one) cx0_m rfl (fun W' ms' α hL hI=>?_)
     refine ⟨.a (.c (.bool true)),[evS ⟨k,t,N,[]⟩ ⟨some ((α 5).add (0+0)),N.length,c,none,0,0⟩],⟨⟨rfl,rfl,rfl⟩,?_⟩,rfl,⟨some ((α 5).add (0+0)),N.length,c,none,0,0⟩,W',ms',hL,⟨SlAt.frz (F:=fun j=>!memB j [0,1]) (hI 5 rfl) rfl hc (show N.length≤9223372036854775807 by omega) (by decide) (by simp) nums_fin (rz_w64 _),SlAt.nul⟩,rfl⟩
     (repeat first|exact trivial|refine ent1 ?_)
    ·rw [hu] at hH hfm
     obtain ⟨c2,hc2,rfl,rfl⟩:=hH
     rw [show fillM k v=some (N,b0::D0) from hfm]
     have hDl:=unhex_len hu
     (repeat show _∧_;first|refine yr ?_|refine yt ?_|refine yf ?_|refine yo ?_)
     refine finW_frz [0,1] rfl (Nat.zero_lt_one) cx0_m rfl (fun W' ms' α hL hI=>?_)
     refine ⟨.a (.c (.bool true)),[evS ⟨k,t,N,b0::D0⟩ ⟨some ((α 5).add (0+0)),N.length,c,some ((α 7).add (0+0)),(b0::D0).length,c2⟩],⟨⟨rfl,rfl,rfl⟩,?_⟩,rfl,⟨some ((α 5).add (0+0)),N.length,c,some ((α 7).add (0+0)),(b0::D0).length,c2⟩,W',ms',hL,⟨SlAt.frz (F:=fun j=>!memB j [0,1]) (hI 5 rfl) rfl hc (show N.length≤9223372036854775807 by omega) (by decide) (by simp) nums_fin (rz_w64 _),SlAt.frz (F:=fun j=>!memB j [0,1]) (hI 7 rfl) rfl hc2 (show (b0::D0).length≤9223372036854775807 by omega) (by decide) (by simp) bytes_finM (rz_w8 _)⟩,rfl⟩
     (repeat first|exact trivial|refine ent1 ?_)
   have e1:decide (((j:Nat):Int)<(l.length:Int))=true:=decide_eq_true (by omega)
   have hdr:(l.map nsB).drop j=nsB (l[j]'hj)::(l.map nsB).drop (j+1):=by rw [List.drop_eq_getElem_cons (by rw [List.length_map]; exact hj),List.getElem_map]
   have hsj:strsF l j=.str (U8 (nsB (l[j]'hj))):=by rw [U8_nsB]; obtain ⟨s,h1,h2⟩:=nthC_str l j hj; rw [List.getElem?_eq_getElem hj] at h2; injection h2 with h2; rw [h2]; exact h1
   generalize (l[j]'hj)=nm at hdr hsj
   (repeat show _∧_;first|refine yr ?_|refine yt ?_|refine yf ?_|refine ya e1 ?_|refine yb e1 ?_|refine yo ?_)
   refine frc_atQ (y:=.str (U8 (nsB nm))) (by exact hsj) ?_
   (repeat show _∧_;first|refine yr ?_|refine yt ?_|refine yf ?_|refine yo ?_)
   refine call_same (fn_qmember hx (nsB nm) 3#8) [0] rfl (by (repeat first|exact trivial|refine ent1 ?_)) (by (repeat first|exact trivial|refine ent1 ?_)) (fun _ _=>trivial) ?_
   rintro y hs ⟨rfl,hm⟩
   rw [hdr] at hnu
   cases hz:memJ v (nsB nm) 3#8 with
   | none =>
    rw [hz] at hm
    obtain rfl:y=_:=hm
    rw [nums_bad hz] at hnu
    rw [show nums v (l.map nsB)=none from hnu] at hfm
    rw [show fillM k v=none from hfm]
    (repeat show _∧_;first|refine yr ?_|refine yt ?_|refine yf ?_|refine yo ?_)
    exact FinW.of ⟨.a (.c (.bool false)),_,⟨[0,1],⟨rfl,rfl,rfl⟩,by (repeat first|exact trivial|refine ent1 ?_)⟩,rfl,rfl⟩
   | some z =>
   rw [hz] at hm
   obtain ⟨xz,hxz,rfl⟩:=hm
   rw [nums_ok hz,Option.map_map] at hnu
   (repeat show _∧_;first|refine yr ?_|refine yt ?_|refine yf ?_|refine yo ?_)
   refine ⟨none,[],[(0,true),(1,true),(2,true),(3,true),(4,true),(5,true),(6,true),(7,false)],[8,9,10,11],by kernel_rfl,?_⟩
   (repeat show _∧_;first|refine yr ?_|refine yt ?_|refine yf ?_|refine yo ?_)
   refine And.intro ⟨hc,by simp only [scale]; omega,by show (N.length+1)*8≤140737488355328; omega⟩ ?_
   intro c1 hc1
   (repeat show _∧_;first|refine yr ?_|refine yt ?_|refine yf ?_|refine yo ?_)
   refine ⟨(j+1,N++[z.n],some c1),[0,1,2,3,4,8],⟨⟨rfl,rfl,rfl⟩,?_⟩,⟨hj,by omega,by rw [List.length_append,hNl]; rfl,by rw [List.length_append]; exact hc1,by rw [hnu]; congr 1; funext l; simp⟩,by dsimp only; omega⟩
   dsimp only
   (repeat first|exact trivial|refine ent1 ?_)
   refine And.intro (show N.length+1=_ by rw [List.length_append]; rfl) ?_
   (repeat first|exact trivial|refine ent1 ?_)
   refine ⟨fun j hj=>eqC_strs l hj,?_⟩
   (repeat first|exact trivial|refine ent1 ?_)
   exact ⟨fun j hj=>eqC_nums (fun j x h=>app_nums rfl (fun j x h=>nums_get h) rfl j x h) j,by (repeat first|exact trivial|refine ent1 ?_)⟩
end Sx
end
section
namespace Sx
open Go.RowKit Sha Vi Js Ev Qj

def ev0:Ev:=⟨0#8,0#64,[],[]⟩
def ec0:EvC:=⟨none,0,0,none,0,0⟩
def EvA (W:World) (ms:List Nat) (o:Ev ⊕ Int) (y:SV) (hs:List (List Seg)):Prop:=match o with
 | .inr c=>c≠0∧∃ W' ms',Later W ms W' ms'∧y=.tup [.agg (evS ev0 ec0),.c (.int .i64 c)]∧hs=[[.past W' ms']]
 | .inl e=>∃ x W' ms',Later W ms W' ms'∧EvAt W' ms' x e∧y=.tup [.agg (evS e x),.c (.int .i64 0)]∧hs=[[.past W' ms']]
theorem MemA.gen {W:World} {ms:List Nat} {d:Nat} {o:Option JT} {y:SV} {hs:List (List Seg)} (h:MemA W ms d o y hs):hs=[[.past W ms]]∧∃ v x b,y=.tup [.agg (jvS v x),.c (.bool b)]∧(b=true→o=some v∧TAt W ms d v x)∧(b=false→o=none):=by
 obtain ⟨h1,h2⟩:=h
 refine ⟨h1,?_⟩
 cases o with
 | none=>exact ⟨_,_,false,h2,fun h=>Bool.noConfusion h,fun _=>rfl⟩
 | some v =>
  obtain ⟨x,hx,hy⟩:=h2
  exact ⟨v,x,true,hy,fun _=>⟨rfl,hx⟩,fun h=>Bool.noConfusion h⟩
def Shrt (n:Nat):Nat→JT→Prop
 | 0,v=>v.s.length≤n
 | d+1,v=>v.s.length≤n∧∀ x∈v.l,Shrt n d x
theorem Shrt.s {n:Nat}:∀ {d:Nat} {v:JT},Shrt n d v→v.s.length≤n
 | 0,_,h=>h
 | _+1,_,h=>h.1
theorem evOf_no {v:JT} (h:hasJ v 3=false∨memJ v timeB 3#8=none∨memJ v nameB 4#8=none∨memJ v dataB 6#8=none):evOf v=.inr 4:=by
 unfold evOf
 rcases h with h|h|h|h
 ·split
  ·rw [if_pos h]
  ·rfl
 ·rw [h]
 ·rw [h]; cases memJ v timeB 3#8 <;> rfl
 ·rw [h]; cases memJ v timeB 3#8 <;> cases memJ v nameB 4#8 <;> rfl
set_option maxRecDepth 20000 in
set_option maxHeartbeats 16000000 in
theorem fn_qevent {d:Nat} {W:World} {ms:List Nat} {v:JT} {x:JC} (hx:TAt W ms (d+2) v x) (hS:Shrt 4194304 2 v):FnR Tryd.prog tds 14 1 [[.past W ms]] [.agg (jvS v x)] (fun _=>True) (EvA W ms (evOf v)):=by
 refine fn_of_bodyW tds_ok follows_ Tryd.func14 rfl (t:=.a (.agg (jvS v x))::anys (Tryd.f14.ntmps-1)) rfl (fun w r0 hr0 _=>?_)
 obtain ⟨x0,rfl⟩:=len1' hr0
 (repeat show _∧_;first|refine yr ?_|refine yt ?_|refine yf ?_|refine yo ?_)
 refine call_same (fn_qmember hx timeB 3#8) [0] rfl (by (repeat first|exact trivial|refine ent1 ?_)) (by (repeat first|exact trivial|refine ent1 ?_)) (fun _ _=>trivial) ?_
 intro y hs h
 obtain ⟨rfl,v1,x1,b1,rfl,h1,h1'⟩:=h.gen
 clear h
 (repeat show _∧_;first|refine yr ?_|refine yt ?_|refine yf ?_|refine yo ?_)
 refine call_same (fn_qmember hx nameB 4#8) [0] rfl (by (repeat first|exact trivial|refine ent1 ?_)) (by (repeat first|exact trivial|refine ent1 ?_)) (fun _ _=>trivial) ?_
 intro y hs h
 obtain ⟨rfl,v2,x2,b2,rfl,h2,h2'⟩:=h.gen
 clear h
 (repeat show _∧_;first|refine yr ?_|refine yt ?_|refine yf ?_|refine yo ?_)
 refine call_same (fn_qmember hx dataB 6#8) [0] rfl (by (repeat first|exact trivial|refine ent1 ?_)) (by (repeat first|exact trivial|refine ent1 ?_)) (fun _ _=>trivial) ?_
 intro y hs h
 obtain ⟨rfl,v3,x3,b3,rfl,h3,h3'⟩:=h.gen
 clear h
 (repeat show _∧_;first|refine yr ?_|refine yt ?_|refine yf ?_|refine yo ?_)
 refine call_same (fn_qhas hx 3) [0] rfl (by (repeat first|exact trivial|refine ent1 ?_)) (by (repeat first|exact trivial|refine ent1 ?_)) (fun _ _=>trivial) ?_
 rintro y hs ⟨rfl,rfl⟩
 cases hh:hasJ v 3
 ·rw [evOf_no (.inl hh)]
  (repeat show _∧_;first|refine yr ?_|refine yt ?_|refine yf ?_|refine yo ?_)
  (repeat show _∧_;first|refine yr ?_|refine yt ?_|refine yf ?_|refine yo ?_)
  exact FinW.of ⟨.tup [.agg (evS ev0 ec0),.c (.int .i64 4)],_,⟨[0],⟨rfl,rfl,rfl⟩,by (repeat first|exact trivial|refine ent1 ?_)⟩,by decide,W,ms,Later.refl _ _,rfl,rfl⟩
 cases b1
 ·rw [evOf_no (.inr (.inl (h1' rfl)))]
  (repeat show _∧_;first|refine yr ?_|refine yt ?_|refine yf ?_|refine yo ?_)
  (repeat show _∧_;first|refine yr ?_|refine yt ?_|refine yf ?_|refine yo ?_)
  exact FinW.of ⟨.tup [.agg (evS ev0 ec0),.c (.int .i64 4)],_,⟨[0],⟨rfl,rfl,rfl⟩,by (repeat first|exact trivial|refine ent1 ?_)⟩,by decide,W,ms,Later.refl _ _,rfl,rfl⟩
 cases b2
 ·rw [evOf_no (.inr (.inr (.inl (h2' rfl))))]
  (repeat show _∧_;first|refine yr ?_|refine yt ?_|refine yf ?_|refine yo ?_)
  (repeat show _∧_;first|refine yr ?_|refine yt ?_|refine yf ?_|refine yo ?_)
  exact FinW.of ⟨.tup [.agg (evS ev0 ec0),.c (.int .i64 4)],_,⟨[0],⟨rfl,rfl,rfl⟩,by (repeat first|exact trivial|refine ent1 ?_)⟩,by decide,W,ms,Later.refl _ _,rfl,rfl⟩
 cases b3
 ·rw [evOf_no (.inr (.inr (.inr (h3' rfl))))]
  (repeat show _∧_;first|refine yr ?_|refine yt ?_|refine yf ?_|refine yo ?_)
  (repeat show _∧_;first|refine yr ?_|refine yt ?_|refine yf ?_|refine yo ?_)
  exact FinW.of ⟨.tup [.agg (evS ev0 ec0),.c (.int .i64 4)],_,⟨[0],⟨rfl,rfl,rfl⟩,by (repeat first|exact trivial|refine ent1 ?_)⟩,by decide,W,ms,Later.refl _ _,rfl,rfl⟩
 obtain ⟨m1,t1⟩:=h1 rfl
 obtain ⟨m2,t2⟩:=h2 rfl
 obtain ⟨m3,t3⟩:=h3 rfl
 have hE:evOf v=match namedM v2.s with
   | none=>.inr 5
   | some k=>match fillM k v3 with
    | none=>.inr 4
    | some (N,D)=>if checkM ⟨k,v1.n,N,D⟩=0 then .inl ⟨k,v1.n,N,D⟩ else .inr (checkM ⟨k,v1.n,N,D⟩):=by
  unfold evOf
  rw [m1,m2,m3]
  dsimp only
  rw [hh,if_neg (by decide)]
  rfl
 (repeat show _∧_;first|refine yr ?_|refine yt ?_|refine yf ?_|refine yo ?_)
 (repeat show _∧_;first|refine yr ?_|refine yt ?_|refine yf ?_|refine yo ?_)
 refine call_same (fn_enamed v2.s) [] rfl (by (repeat first|exact trivial|refine ent1 ?_)) trivial (fun _ _=>trivial) ?_
 rintro y hs ⟨rfl,rfl⟩
 cases hn:namedM v2.s with
 | none =>
  rw [hn] at hE
  rw [hE]
  (repeat show _∧_;first|refine yr ?_|refine yt ?_|refine yf ?_|refine yo ?_)
  (repeat show _∧_;first|refine yr ?_|refine yt ?_|refine yf ?_|refine yo ?_)
  exact FinW.of ⟨.tup [.agg (evS ev0 ec0),.c (.int .i64 5)],_,⟨[0],⟨rfl,rfl,rfl⟩,by (repeat first|exact trivial|refine ent1 ?_)⟩,by decide,W,ms,Later.refl _ _,rfl,rfl⟩
 | some k =>
 rw [hn] at hE
 dsimp only at hE
 have q1:(!(some k:Option (BitVec 8)).isSome)=false:=rfl
 (repeat show _∧_;first|refine yr ?_|refine yt ?_|refine yf ?_|refine ya q1 ?_|refine yb q1 ?_|refine yo ?_)
 (repeat show _∧_;first|refine yr ?_|refine yt ?_|refine yf ?_|refine ya q1 ?_|refine yb q1 ?_|refine yo ?_)
 have hv3:v3∈v.l:=memJ_mem m3
 cases hF:fillM k v3 with
 | none =>
  rw [hF] at hE
  rw [hE]
  refine call_past (fn_qfill t3 (fun y hy=>((hS.2 v3 hv3).2 y hy).s) k v1.n) 0 [6] rfl rfl (by (repeat first|exact trivial|refine ent1 ?_)) (by (repeat first|exact trivial|refine ent1 ?_)) (fun _ _=>trivial) (fun x hs hr=>?_) ?_
  ·rw [hF] at hr
   obtain ⟨_,rfl⟩:=hr
   exact ⟨W,ms,rfl,Later.refl _ _⟩
  intro y hs hr
  rw [hF] at hr
  obtain ⟨rfl,rfl⟩:=hr
  (repeat show _∧_;first|refine yr ?_|refine yt ?_|refine yf ?_|refine yo ?_)
  (repeat show _∧_;first|refine yr ?_|refine yt ?_|refine yf ?_|refine yo ?_)
  exact FinW.of ⟨.tup [.agg (evS ev0 ec0),.c (.int .i64 4)],_,⟨[0],⟨rfl,rfl,rfl⟩,by (repeat first|exact trivial|refine ent1 ?_)⟩,by decide,W,ms,Later.refl _ _,rfl,rfl⟩
 | some ND =>
 obtain ⟨N,D⟩:=ND
 rw [hF] at hE
 dsimp only at hE
 refine call_past (fn_qfill t3 (fun y hy=>((hS.2 v3 hv3).2 y hy).s) k v1.n) 0 [6] rfl rfl (by (repeat first|exact trivial|refine ent1 ?_)) (by (repeat first|exact trivial|refine ent1 ?_)) (fun _ _=>trivial) (fun x hs hr=>?_) ?_
 ·rw [hF] at hr
  obtain ⟨_,x',W',ms',hL,_,rfl⟩:=hr
  exact ⟨W',ms',rfl,hL⟩
 intro y hs hr
 rw [hF] at hr
 obtain ⟨rfl,x',W',ms',hL,hev,rfl⟩:=hr
 (repeat show _∧_;first|refine yr ?_|refine yt ?_|refine yf ?_|refine yo ?_)
 (repeat show _∧_;first|refine yr ?_|refine yt ?_|refine yf ?_|refine yo ?_)
 refine call_same (fn_echeck hev) [0] rfl (by (repeat first|exact trivial|refine ent1 ?_)) (by (repeat first|exact trivial|refine ent1 ?_)) (fun _ _=>trivial) ?_
 rintro y hs ⟨rfl,rfl⟩
 by_cases hc:checkM ⟨k,v1.n,N,D⟩=0
 ·rw [if_pos hc] at hE
  rw [hE,hc]
  (repeat show _∧_;first|refine yr ?_|refine yt ?_|refine yf ?_|refine yo ?_)
  exact FinW.of ⟨.tup [.agg (evS ⟨k,v1.n,N,D⟩ x'),.c (.int .i64 0)],_,⟨[0],⟨rfl,rfl,rfl⟩,by (repeat first|exact trivial|refine ent1 ?_)⟩,x',W',ms',hL,hev,rfl,rfl⟩
 ·rw [if_neg hc] at hE
  rw [hE]
  have f1:decide (checkM ⟨k,v1.n,N,D⟩≠0)=true:=decide_eq_true hc
  (repeat show _∧_;first|refine yr ?_|refine yt ?_|refine yf ?_|refine ya f1 ?_|refine yb f1 ?_|refine yo ?_)
  exact FinW.of ⟨.tup [.agg (evS ev0 ec0),.c (.int .i64 (checkM ⟨k,v1.n,N,D⟩))],_,⟨[0],⟨rfl,rfl,rfl⟩,by (repeat first|exact trivial|refine ent1 ?_)⟩,hc,W',ms',hL,rfl,rfl⟩
end Sx
end
section
namespace Sx
open Go.RowKit Sha Vi Js Ev Qj

theorem jv_raw (v:JT) (x:JC):∀ y∈flat (jvS v x),y.raw=y:=fun y hy=>by
 rw [flat_jvS] at hy
 simp only [List.mem_cons,List.not_mem_nil,or_false] at hy
 rcases hy with rfl|rfl|rfl|rfl|rfl <;> rfl
theorem eqJ_app {q:List Nat} {cs D:List SC} (hr:∀ x∈cs,x.raw=x) {f:Nat→SC} (hf:∀ j,j<(cs++D).length→f j=nthC (cs++D) j) (hD:∀ i,i<D.length→eqC q (nthC D i) (nthC D i) True) (j:Nat):eqC q (f j) (nthC (cs++D) j) True:=by
 rcases Nat.lt_or_ge j (cs++D).length with hj|hj
 ·rw [hf j hj]
  rcases Nat.lt_or_ge j cs.length with h|h
  ·rw [nthJ_l h]; exact eqJ_raw (hr _ (nthJ_mem h))
  ·rw [nthJ_r h]; exact hD _ (by rw [List.length_append] at hj; omega)
 ·rw [nthJ_out hj]; trivial
set_option maxRecDepth 20000 in
set_option maxHeartbeats 8000000 in
theorem fn_qadd0 (v:JT) (x:JC) (s:Bs):Fn Tryd.prog tds 31 [vo0] [.c (.p 0 0 0),.c (.str (U8 s)),.agg (jvS v x)] (fun _=>True)
  (fun y hs=>∃ c e,1≤c∧1≤e∧y=.tup []∧hs=[vo1 1 1 c 2 1 e,[.row (scale c (4+1)) (nthC (flat (jvS v x)))],[.row (scale e (0+1)) (nthC (nmJ [s]))]]):=by
 refine fn_of_body tds_ok follows_ Tryd.func31 rfl (t:=.a (.c (.p 0 0 0))::.a (.c (.str (U8 s)))::.a (.agg (jvS v x))::anys (Tryd.f31.ntmps-3)) rfl (fun w r0 hr0 _=>?_)
 obtain ⟨x0,rfl⟩:∃ x0,r0=[x0]:=by
  match r0,hr0 with
  | [y0],_=>exact ⟨_,rfl⟩
 (repeat show _∧_;first|refine yr ?_|refine yt ?_|refine yf ?_|refine yo ?_)
 refine ⟨some [0,1],[1001,1000,1001,1002,1003,1004,1005,1006,1009,1010,1011,1012,1013,3,7,14,3,8,14,2014,2015,0,2008,2015,0,2007,2008,2015,0],[(0,true),(1,true),(2,true),(3,true),(4,true),(5,true),(6,true),(7,false),(8,false),(9,true),(10,true),(11,true),(12,true),(13,true),(14,false),(15,false)],[16,17,18,19,20,21],by kernel_rfl,?_⟩
 (repeat show _∧_;first|refine yr ?_|refine yt ?_|refine yf ?_|refine yo ?_)
 refine And.intro (And.intro ?_ ?_) ?_
 ·(repeat show _∧_;first|refine yr ?_|refine yt ?_|refine yf ?_|refine yo ?_)
  intro e2 he2
  refine And.intro rfl ?_
  refine And.intro (show 0+5≤5 by decide) ?_
  (repeat show _∧_;first|refine yr ?_|refine yt ?_|refine yf ?_|refine yo ?_)
  intro c2 hc2
  (repeat show _∧_;first|refine yr ?_|refine yt ?_|refine yf ?_|refine yo ?_)
  refine ⟨.tup [],_,⟨[0,5,3],⟨rfl,rfl,rfl⟩,?_⟩,c2,e2,hc2,he2,rfl,rfl⟩
  (repeat first|exact trivial|refine ent1 ?_)
  refine And.intro (fun j hj=>eqJ_cs (jv_raw v x) (newJ_cs (m:=1) (sz:=4) rfl fun j hj=>updJ_new hj) j) ?_
  (repeat first|exact trivial|refine ent1 ?_)
  exact ⟨fun j hj=>eqJ_cs (nmL_raw _) (fun j hj=>nmL_newrow j hj) j,by (repeat first|exact trivial|refine ent1 ?_)⟩
 ·refine And.intro rfl ?_
  refine And.intro (show 0+5≤5 by decide) ?_
  (repeat show _∧_;first|refine yr ?_|refine yt ?_|refine yf ?_|refine yo ?_)
  intro e2 he2
  (repeat show _∧_;first|refine yr ?_|refine yt ?_|refine yf ?_|refine yo ?_)
  intro c2 hc2
  (repeat show _∧_;first|refine yr ?_|refine yt ?_|refine yf ?_|refine yo ?_)
  refine ⟨.tup [],_,⟨[0,5,4],⟨rfl,rfl,rfl⟩,?_⟩,c2,e2,hc2,he2,rfl,rfl⟩
  (repeat first|exact trivial|refine ent1 ?_)
  refine And.intro (fun j hj=>eqJ_cs (jv_raw v x) (newJ_cs (m:=1) (sz:=4) rfl fun j hj=>updJ_new hj) j) ?_
  (repeat first|exact trivial|refine ent1 ?_)
  exact ⟨fun j hj=>eqJ_cs (nmL_raw _) (fun j hj=>nmL_newrow j hj) j,by (repeat first|exact trivial|refine ent1 ?_)⟩
 ·refine And.intro rfl ?_
  refine And.intro (show 0+5≤5 by decide) ?_
  (repeat show _∧_;first|refine yr ?_|refine yt ?_|refine yf ?_|refine yo ?_)
  intro e2 he2
  (repeat show _∧_;first|refine yr ?_|refine yt ?_|refine yf ?_|refine yo ?_)
  intro c2 hc2
  (repeat show _∧_;first|refine yr ?_|refine yt ?_|refine yf ?_|refine yo ?_)
  refine ⟨.tup [],_,⟨[0,5,4],⟨rfl,rfl,rfl⟩,?_⟩,c2,e2,hc2,he2,rfl,rfl⟩
  (repeat first|exact trivial|refine ent1 ?_)
  refine And.intro (fun j hj=>eqJ_cs (jv_raw v x) (newJ_cs (m:=1) (sz:=4) rfl fun j hj=>updJ_new hj) j) ?_
  (repeat first|exact trivial|refine ent1 ?_)
  exact ⟨fun j hj=>eqJ_cs (nmL_raw _) (fun j hj=>nmL_newrow j hj) j,by (repeat first|exact trivial|refine ent1 ?_)⟩
set_option maxRecDepth 20000 in
set_option maxHeartbeats 8000000 in
theorem fn_qadd1 (cs:List SC) (ns:List Bs) (m c e:Nat) (hr:∀ x∈cs,x.raw=x) (hl:cs.length=m*5) (hn:ns.length=m) (hc:m≤c) (he:m≤e) (hm:m≤1000000) (v:JT) (x:JC) (s:Bs):Fn Tryd.prog tds 31 [vo1 1 m c 2 m e,[.row (scale c (4+1)) (nthC cs)],[.row (scale e (0+1)) (nthC (nmJ ns))]] [.c (.p 0 0 0),.c (.str (U8 s)),.agg (jvS v x)] (fun _=>True)
  (fun y hs=>∃ c' e',m+1≤c'∧m+1≤e'∧y=.tup []∧hs=[vo1 3 (m+1) c' 4 (m+1) e',[],[],[.row (scale c' (4+1)) (nthC (cs++(flat (jvS v x))))],[.row (scale e' (0+1)) (nthC (nmJ (ns++[s])))]]):=by
 refine fn_of_body tds_ok follows_ Tryd.func31 rfl (t:=.a (.c (.p 0 0 0))::.a (.c (.str (U8 s)))::.a (.agg (jvS v x))::anys (Tryd.f31.ntmps-3)) rfl (fun w r0 hr0 _=>?_)
 obtain ⟨x0,x1,x2,rfl⟩:∃ x0 x1 x2,r0=[x0,x1,x2]:=by
  match r0,hr0 with
  | [y0,y1,y2],_=>exact ⟨_,_,_,rfl⟩
 (repeat show _∧_;first|refine yr ?_|refine yt ?_|refine yf ?_|refine yo ?_)
 refine ⟨some [0,3],[1001,1000,1001,1002,1003,1004,1005,1006,1009,1010,1011,1012,1013,3,7,14,3,8,14,2014,2015,0,2008,2015,0,2007,2008,2015,0],[(0,true),(1,true),(2,true),(3,true),(4,true),(5,true),(6,true),(7,false),(8,false),(9,true),(10,true),(11,true),(12,true),(13,true),(14,false),(15,false)],[16,17,18,19,20,21],by kernel_rfl,?_⟩
 (repeat show _∧_;first|refine yr ?_|refine yt ?_|refine yf ?_|refine yo ?_)
 refine And.intro (And.intro ?_ ?_) ?_
 ·refine And.intro (show 0+scale 1 (0+1)≤1 by decide) ?_
  refine And.intro ⟨he,by rw [sc1]; omega,show (m+1)*16≤140737488355328 by omega⟩ ?_
  intro e2 he2
  refine And.intro rfl ?_
  refine And.intro (show 0+5≤5 by decide) ?_
  refine And.intro (show 0+scale 1 (4+1)≤5 by decide) ?_
  refine And.intro ⟨hc,by rw [sc5]; omega,show (m+1)*80≤140737488355328 by omega⟩ ?_
  intro c2 hc2
  (repeat show _∧_;first|refine yr ?_|refine yt ?_|refine yf ?_|refine yo ?_)
  refine ⟨.tup [],_,⟨[0,1,2,7,5],⟨rfl,rfl,rfl⟩,?_⟩,c2,e2,hc2,he2,rfl,rfl⟩
  (repeat first|exact trivial|refine ent1 ?_)
  refine And.intro (fun j hj=>eqJ_cs (fun y hy=>(List.mem_append.1 hy).elim (hr y) ((jv_raw v x) y)) (appJ_cs (m:=1) (sz:=4) (by rw [hl]) (fun _ _=>rfl) rfl fun j hj=>updJ_new hj) j) ?_
  (repeat first|exact trivial|refine ent1 ?_)
  exact ⟨fun j hj=>eqJ_cs (nmL_raw _) (fun j hj=>nmL_approw hn j hj) j,by (repeat first|exact trivial|refine ent1 ?_)⟩
 ·refine And.intro rfl ?_
  refine And.intro (show 0+5≤5 by decide) ?_
  refine And.intro (show 0+scale 1 (0+1)≤1 by decide) ?_
  refine And.intro ⟨he,by rw [sc1]; omega,show (m+1)*16≤140737488355328 by omega⟩ ?_
  intro e2 he2
  refine And.intro (show 0+scale 1 (4+1)≤5 by decide) ?_
  refine And.intro ⟨hc,by rw [sc5]; omega,show (m+1)*80≤140737488355328 by omega⟩ ?_
  intro c2 hc2
  (repeat show _∧_;first|refine yr ?_|refine yt ?_|refine yf ?_|refine yo ?_)
  refine ⟨.tup [],_,⟨[0,1,2,7,6],⟨rfl,rfl,rfl⟩,?_⟩,c2,e2,hc2,he2,rfl,rfl⟩
  (repeat first|exact trivial|refine ent1 ?_)
  refine And.intro (fun j hj=>eqJ_cs (fun y hy=>(List.mem_append.1 hy).elim (hr y) ((jv_raw v x) y)) (appJ_cs (m:=1) (sz:=4) (by rw [hl]) (fun _ _=>rfl) rfl fun j hj=>updJ_new hj) j) ?_
  (repeat first|exact trivial|refine ent1 ?_)
  exact ⟨fun j hj=>eqJ_cs (nmL_raw _) (fun j hj=>nmL_approw hn j hj) j,by (repeat first|exact trivial|refine ent1 ?_)⟩
 ·refine And.intro rfl ?_
  refine And.intro (show 0+5≤5 by decide) ?_
  refine And.intro (show 0+scale 1 (0+1)≤1 by decide) ?_
  refine And.intro ⟨he,by rw [sc1]; omega,show (m+1)*16≤140737488355328 by omega⟩ ?_
  intro e2 he2
  refine And.intro (show 0+scale 1 (4+1)≤5 by decide) ?_
  refine And.intro ⟨hc,by rw [sc5]; omega,show (m+1)*80≤140737488355328 by omega⟩ ?_
  intro c2 hc2
  (repeat show _∧_;first|refine yr ?_|refine yt ?_|refine yf ?_|refine yo ?_)
  refine ⟨.tup [],_,⟨[0,1,2,7,6],⟨rfl,rfl,rfl⟩,?_⟩,c2,e2,hc2,he2,rfl,rfl⟩
  (repeat first|exact trivial|refine ent1 ?_)
  refine And.intro (fun j hj=>eqJ_cs (fun y hy=>(List.mem_append.1 hy).elim (hr y) ((jv_raw v x) y)) (appJ_cs (m:=1) (sz:=4) (by rw [hl]) (fun _ _=>rfl) rfl fun j hj=>updJ_new hj) j) ?_
  (repeat first|exact trivial|refine ent1 ?_)
  exact ⟨fun j hj=>eqJ_cs (nmL_raw _) (fun j hj=>nmL_approw hn j hj) j,by (repeat first|exact trivial|refine ent1 ?_)⟩
set_option maxRecDepth 20000 in
set_option maxHeartbeats 8000000 in
theorem fn_qadd2 (cs:List SC) (ns:List Bs) (m c e:Nat) (hr:∀ x∈cs,x.raw=x) (hl:cs.length=m*5) (hn:ns.length=m) (hc:m≤c) (he:m≤e) (hm:m≤1000000) (p pc r rc:Nat) (X Y:Nat→SC) (a1 a2:Nat) (hX:∀ q j,eqC q (X j) (X j) True) (hY:∀ q j,eqC q (Y j) (Y j) True) (s:Bs):Fn Tryd.prog tds 31 [vo1 1 m c 2 m e,[.row (scale c (4+1)) (nthC cs)],[.row (scale e (0+1)) (nthC (nmJ ns))],[.row a1 X],[.row a2 Y]] [.c (.p 0 0 0),.c (.str (U8 s)),.agg ([.one (.w8 6#8),.one (.w64 0#64),.one (.str []),.one (.sl 3 0 0 p pc),.one (.sl 4 0 0 r rc)])] (fun _=>True)
  (fun y hs=>∃ c' e',m+1≤c'∧m+1≤e'∧y=.tup []∧hs=[vo1 5 (m+1) c' 6 (m+1) e',[],[],[.row a1 X],[.row a2 Y],[.row (scale c' (4+1)) (nthC (cs++[.w8 6#8,.w64 0#64,.str [],.sl 3 0 0 p pc,.sl 4 0 0 r rc]))],[.row (scale e' (0+1)) (nthC (nmJ (ns++[s])))]]):=by
 refine fn_of_body tds_ok follows_ Tryd.func31 rfl (t:=.a (.c (.p 0 0 0))::.a (.c (.str (U8 s)))::.a (.agg ([.one (.w8 6#8),.one (.w64 0#64),.one (.str []),.one (.sl 3 0 0 p pc),.one (.sl 4 0 0 r rc)]))::anys (Tryd.f31.ntmps-3)) rfl (fun w r0 hr0 _=>?_)
 obtain ⟨x0,x1,x2,x3,x4,rfl⟩:∃ x0 x1 x2 x3 x4,r0=[x0,x1,x2,x3,x4]:=by
  match r0,hr0 with
  | [y0,y1,y2,y3,y4],_=>exact ⟨_,_,_,_,_,rfl⟩
 (repeat show _∧_;first|refine yr ?_|refine yt ?_|refine yf ?_|refine yo ?_)
 refine ⟨some [0,5],[1001,1000,1001,1002,1003,1004,1005,1006,1009,1010,1011,1012,1013,3,7,14,3,8,14,2014,2015,0,2008,2015,0,2007,2008,2015,0],[(0,true),(1,true),(2,true),(3,true),(4,true),(5,true),(6,true),(7,false),(8,false),(9,true),(10,true),(11,true),(12,true),(13,true),(14,false),(15,false)],[16,17,18,19,20,21],by kernel_rfl,?_⟩
 (repeat show _∧_;first|refine yr ?_|refine yt ?_|refine yf ?_|refine yo ?_)
 refine And.intro (And.intro ?_ ?_) ?_
 ·refine And.intro (show 0+scale 1 (0+1)≤1 by decide) ?_
  refine And.intro ⟨he,by rw [sc1]; omega,show (m+1)*16≤140737488355328 by omega⟩ ?_
  intro e2 he2
  refine And.intro rfl ?_
  refine And.intro (show 0+5≤5 by decide) ?_
  refine And.intro (show 0+scale 1 (4+1)≤5 by decide) ?_
  refine And.intro ⟨hc,by rw [sc5]; omega,show (m+1)*80≤140737488355328 by omega⟩ ?_
  intro c2 hc2
  (repeat show _∧_;first|refine yr ?_|refine yt ?_|refine yf ?_|refine yo ?_)
  refine ⟨.tup [],_,⟨[0,1,2,3,4,9,7],⟨rfl,rfl,rfl⟩,?_⟩,c2,e2,hc2,he2,rfl,rfl⟩
  (repeat first|exact trivial|refine ent1 ?_)
  refine And.intro (fun j hj=>hX _ j) ?_
  (repeat first|exact trivial|refine ent1 ?_)
  refine And.intro (fun j hj=>hY _ j) ?_
  (repeat first|exact trivial|refine ent1 ?_)
  refine And.intro (fun j hj=>eqJ_app hr (appJ_cs (new:=[.w8 6#8,.w64 0#64,.str [],.sl 3 0 0 p pc,.sl 4 0 0 r rc]) (m:=1) (sz:=4) (by rw [hl]) (fun _ _=>rfl) rfl fun j hj=>updJ_new hj) (fun i hi=>?_) j) ?_
  ·match i,hi with
   | 0,_=>(repeat first|exact trivial|refine ent1 ?_)
   | 1,_=>(repeat first|exact trivial|refine ent1 ?_)
   | 2,_=>(repeat first|exact trivial|refine ent1 ?_)
   | 3,_=>(repeat first|exact trivial|refine ent1 ?_)
   | 4,_=>(repeat first|exact trivial|refine ent1 ?_)
  (repeat first|exact trivial|refine ent1 ?_)
  exact ⟨fun j hj=>eqJ_cs (nmL_raw _) (fun j hj=>nmL_approw hn j hj) j,by (repeat first|exact trivial|refine ent1 ?_)⟩
 ·refine And.intro rfl ?_
  refine And.intro (show 0+5≤5 by decide) ?_
  refine And.intro (show 0+scale 1 (0+1)≤1 by decide) ?_
  refine And.intro ⟨he,by rw [sc1]; omega,show (m+1)*16≤140737488355328 by omega⟩ ?_
  intro e2 he2
  refine And.intro (show 0+scale 1 (4+1)≤5 by decide) ?_
  refine And.intro ⟨hc,by rw [sc5]; omega,show (m+1)*80≤140737488355328 by omega⟩ ?_
  intro c2 hc2
  (repeat show _∧_;first|refine yr ?_|refine yt ?_|refine yf ?_|refine yo ?_)
  refine ⟨.tup [],_,⟨[0,1,2,3,4,9,8],⟨rfl,rfl,rfl⟩,?_⟩,c2,e2,hc2,he2,rfl,rfl⟩
  (repeat first|exact trivial|refine ent1 ?_)
  refine And.intro (fun j hj=>hX _ j) ?_
  (repeat first|exact trivial|refine ent1 ?_)
  refine And.intro (fun j hj=>hY _ j) ?_
  (repeat first|exact trivial|refine ent1 ?_)
  refine And.intro (fun j hj=>eqJ_app hr (appJ_cs (new:=[.w8 6#8,.w64 0#64,.str [],.sl 3 0 0 p pc,.sl 4 0 0 r rc]) (m:=1) (sz:=4) (by rw [hl]) (fun _ _=>rfl) rfl fun j hj=>updJ_new hj) (fun i hi=>?_) j) ?_
  ·match i,hi with
   | 0,_=>(repeat first|exact trivial|refine ent1 ?_)
   | 1,_=>(repeat first|exact trivial|refine ent1 ?_)
   | 2,_=>(repeat first|exact trivial|refine ent1 ?_)
   | 3,_=>(repeat first|exact trivial|refine ent1 ?_)
   | 4,_=>(repeat first|exact trivial|refine ent1 ?_)
  (repeat first|exact trivial|refine ent1 ?_)
  exact ⟨fun j hj=>eqJ_cs (nmL_raw _) (fun j hj=>nmL_approw hn j hj) j,by (repeat first|exact trivial|refine ent1 ?_)⟩
 ·refine And.intro rfl ?_
  refine And.intro (show 0+5≤5 by decide) ?_
  refine And.intro (show 0+scale 1 (0+1)≤1 by decide) ?_
  refine And.intro ⟨he,by rw [sc1]; omega,show (m+1)*16≤140737488355328 by omega⟩ ?_
  intro e2 he2
  refine And.intro (show 0+scale 1 (4+1)≤5 by decide) ?_
  refine And.intro ⟨hc,by rw [sc5]; omega,show (m+1)*80≤140737488355328 by omega⟩ ?_
  intro c2 hc2
  (repeat show _∧_;first|refine yr ?_|refine yt ?_|refine yf ?_|refine yo ?_)
  refine ⟨.tup [],_,⟨[0,1,2,3,4,9,8],⟨rfl,rfl,rfl⟩,?_⟩,c2,e2,hc2,he2,rfl,rfl⟩
  (repeat first|exact trivial|refine ent1 ?_)
  refine And.intro (fun j hj=>hX _ j) ?_
  (repeat first|exact trivial|refine ent1 ?_)
  refine And.intro (fun j hj=>hY _ j) ?_
  (repeat first|exact trivial|refine ent1 ?_)
  refine And.intro (fun j hj=>eqJ_app hr (appJ_cs (new:=[.w8 6#8,.w64 0#64,.str [],.sl 3 0 0 p pc,.sl 4 0 0 r rc]) (m:=1) (sz:=4) (by rw [hl]) (fun _ _=>rfl) rfl fun j hj=>updJ_new hj) (fun i hi=>?_) j) ?_
  ·match i,hi with
   | 0,_=>(repeat first|exact trivial|refine ent1 ?_)
   | 1,_=>(repeat first|exact trivial|refine ent1 ?_)
   | 2,_=>(repeat first|exact trivial|refine ent1 ?_)
   | 3,_=>(repeat first|exact trivial|refine ent1 ?_)
   | 4,_=>(repeat first|exact trivial|refine ent1 ?_)
  (repeat first|exact trivial|refine ent1 ?_)
  exact ⟨fun j hj=>eqJ_cs (nmL_raw _) (fun j hj=>nmL_approw hn j hj) j,by (repeat first|exact trivial|refine ent1 ?_)⟩
set_option maxRecDepth 20000 in
set_option maxHeartbeats 8000000 in
theorem fn_qadd3 (cs:List SC) (ns:List Bs) (m c e:Nat) (hr:∀ x∈cs,x.raw=x) (hl:cs.length=m*5) (hn:ns.length=m) (hc:m≤c) (he:m≤e) (hm:m≤1000000) (p pc:Nat) (X:Nat→SC) (a1:Nat) (hX:∀ q j,eqC q (X j) (X j) True) (s:Bs):Fn Tryd.prog tds 31 [vo1 1 m c 2 m e,[.row (scale c (4+1)) (nthC cs)],[.row (scale e (0+1)) (nthC (nmJ ns))],[.row a1 X]] [.c (.p 0 0 0),.c (.str (U8 s)),.agg ([.one (.w8 5#8),.one (.w64 0#64),.one (.str []),.one (.sl 3 0 0 p pc),.one (.slc none 0 0)])] (fun _=>True)
  (fun y hs=>∃ c' e',m+1≤c'∧m+1≤e'∧y=.tup []∧hs=[vo1 4 (m+1) c' 5 (m+1) e',[],[],[.row a1 X],[.row (scale c' (4+1)) (nthC (cs++[.w8 5#8,.w64 0#64,.str [],.sl 3 0 0 p pc,.slc none 0 0]))],[.row (scale e' (0+1)) (nthC (nmJ (ns++[s])))]]):=by
 refine fn_of_body tds_ok follows_ Tryd.func31 rfl (t:=.a (.c (.p 0 0 0))::.a (.c (.str (U8 s)))::.a (.agg ([.one (.w8 5#8),.one (.w64 0#64),.one (.str []),.one (.sl 3 0 0 p pc),.one (.slc none 0 0)]))::anys (Tryd.f31.ntmps-3)) rfl (fun w r0 hr0 _=>?_)
 obtain ⟨x0,x1,x2,x3,rfl⟩:∃ x0 x1 x2 x3,r0=[x0,x1,x2,x3]:=by
  match r0,hr0 with
  | [y0,y1,y2,y3],_=>exact ⟨_,_,_,_,rfl⟩
 (repeat show _∧_;first|refine yr ?_|refine yt ?_|refine yf ?_|refine yo ?_)
 refine ⟨some [0,4],[1001,1000,1001,1002,1003,1004,1005,1006,1009,1010,1011,1012,1013,3,7,14,3,8,14,2014,2015,0,2008,2015,0,2007,2008,2015,0],[(0,true),(1,true),(2,true),(3,true),(4,true),(5,true),(6,true),(7,false),(8,false),(9,true),(10,true),(11,true),(12,true),(13,true),(14,false),(15,false)],[16,17,18,19,20,21],by kernel_rfl,?_⟩
 (repeat show _∧_;first|refine yr ?_|refine yt ?_|refine yf ?_|refine yo ?_)
 refine And.intro (And.intro ?_ ?_) ?_
 ·refine And.intro (show 0+scale 1 (0+1)≤1 by decide) ?_
  refine And.intro ⟨he,by rw [sc1]; omega,show (m+1)*16≤140737488355328 by omega⟩ ?_
  intro e2 he2
  refine And.intro rfl ?_
  refine And.intro (show 0+5≤5 by decide) ?_
  refine And.intro (show 0+scale 1 (4+1)≤5 by decide) ?_
  refine And.intro ⟨hc,by rw [sc5]; omega,show (m+1)*80≤140737488355328 by omega⟩ ?_
  intro c2 hc2
  (repeat show _∧_;first|refine yr ?_|refine yt ?_|refine yf ?_|refine yo ?_)
  refine ⟨.tup [],_,⟨[0,1,2,3,8,6],⟨rfl,rfl,rfl⟩,?_⟩,c2,e2,hc2,he2,rfl,rfl⟩
  (repeat first|exact trivial|refine ent1 ?_)
  refine And.intro (fun j hj=>hX _ j) ?_
  (repeat first|exact trivial|refine ent1 ?_)
  refine And.intro (fun j hj=>eqJ_app hr (appJ_cs (new:=[.w8 5#8,.w64 0#64,.str [],.sl 3 0 0 p pc,.slc none 0 0]) (m:=1) (sz:=4) (by rw [hl]) (fun _ _=>rfl) rfl fun j hj=>updJ_new hj) (fun i hi=>?_) j) ?_
  ·match i,hi with
   | 0,_=>(repeat first|exact trivial|refine ent1 ?_)
   | 1,_=>(repeat first|exact trivial|refine ent1 ?_)
   | 2,_=>(repeat first|exact trivial|refine ent1 ?_)
   | 3,_=>(repeat first|exact trivial|refine ent1 ?_)
   | 4,_=>(repeat first|exact trivial|refine ent1 ?_)
  (repeat first|exact trivial|refine ent1 ?_)
  exact ⟨fun j hj=>eqJ_cs (nmL_raw _) (fun j hj=>nmL_approw hn j hj) j,by (repeat first|exact trivial|refine ent1 ?_)⟩
 ·refine And.intro rfl ?_
  refine And.intro (show 0+5≤5 by decide) ?_
  refine And.intro (show 0+scale 1 (0+1)≤1 by decide) ?_
  refine And.intro ⟨he,by rw [sc1]; omega,show (m+1)*16≤140737488355328 by omega⟩ ?_
  intro e2 he2
  refine And.intro (show 0+scale 1 (4+1)≤5 by decide) ?_
  refine And.intro ⟨hc,by rw [sc5]; omega,show (m+1)*80≤140737488355328 by omega⟩ ?_
  intro c2 hc2
  (repeat show _∧_;first|refine yr ?_|refine yt ?_|refine yf ?_|refine yo ?_)
  refine ⟨.tup [],_,⟨[0,1,2,3,8,7],⟨rfl,rfl,rfl⟩,?_⟩,c2,e2,hc2,he2,rfl,rfl⟩
  (repeat first|exact trivial|refine ent1 ?_)
  refine And.intro (fun j hj=>hX _ j) ?_
  (repeat first|exact trivial|refine ent1 ?_)
  refine And.intro (fun j hj=>eqJ_app hr (appJ_cs (new:=[.w8 5#8,.w64 0#64,.str [],.sl 3 0 0 p pc,.slc none 0 0]) (m:=1) (sz:=4) (by rw [hl]) (fun _ _=>rfl) rfl fun j hj=>updJ_new hj) (fun i hi=>?_) j) ?_
  ·match i,hi with
   | 0,_=>(repeat first|exact trivial|refine ent1 ?_)
   | 1,_=>(repeat first|exact trivial|refine ent1 ?_)
   | 2,_=>(repeat first|exact trivial|refine ent1 ?_)
   | 3,_=>(repeat first|exact trivial|refine ent1 ?_)
   | 4,_=>(repeat first|exact trivial|refine ent1 ?_)
  (repeat first|exact trivial|refine ent1 ?_)
  exact ⟨fun j hj=>eqJ_cs (nmL_raw _) (fun j hj=>nmL_approw hn j hj) j,by (repeat first|exact trivial|refine ent1 ?_)⟩
 ·refine And.intro rfl ?_
  refine And.intro (show 0+5≤5 by decide) ?_
  refine And.intro (show 0+scale 1 (0+1)≤1 by decide) ?_
  refine And.intro ⟨he,by rw [sc1]; omega,show (m+1)*16≤140737488355328 by omega⟩ ?_
  intro e2 he2
  refine And.intro (show 0+scale 1 (4+1)≤5 by decide) ?_
  refine And.intro ⟨hc,by rw [sc5]; omega,show (m+1)*80≤140737488355328 by omega⟩ ?_
  intro c2 hc2
  (repeat show _∧_;first|refine yr ?_|refine yt ?_|refine yf ?_|refine yo ?_)
  refine ⟨.tup [],_,⟨[0,1,2,3,8,7],⟨rfl,rfl,rfl⟩,?_⟩,c2,e2,hc2,he2,rfl,rfl⟩
  (repeat first|exact trivial|refine ent1 ?_)
  refine And.intro (fun j hj=>hX _ j) ?_
  (repeat first|exact trivial|refine ent1 ?_)
  refine And.intro (fun j hj=>eqJ_app hr (appJ_cs (new:=[.w8 5#8,.w64 0#64,.str [],.sl 3 0 0 p pc,.slc none 0 0]) (m:=1) (sz:=4) (by rw [hl]) (fun _ _=>rfl) rfl fun j hj=>updJ_new hj) (fun i hi=>?_) j) ?_
  ·match i,hi with
   | 0,_=>(repeat first|exact trivial|refine ent1 ?_)
   | 1,_=>(repeat first|exact trivial|refine ent1 ?_)
   | 2,_=>(repeat first|exact trivial|refine ent1 ?_)
   | 3,_=>(repeat first|exact trivial|refine ent1 ?_)
   | 4,_=>(repeat first|exact trivial|refine ent1 ?_)
  (repeat first|exact trivial|refine ent1 ?_)
  exact ⟨fun j hj=>eqJ_cs (nmL_raw _) (fun j hj=>nmL_approw hn j hj) j,by (repeat first|exact trivial|refine ent1 ?_)⟩
end Sx
end
section
namespace Qj
open Sha Js Ev
theorem names_data:∀ k:BitVec 8,evOk k=true→evNames k=[]→evData k=false:=by decide +kernel
theorem names_le9:∀ k:BitVec 8,(evNames k).length≤9:=by decide +kernel
theorem check0 {e:Ev} (h:checkM e=0):evOk e.k=true∧e.N.length=(evNames e.k).length∧e.D.length≤20∧(evData e.k=false→e.D=[]):=by
 unfold checkM at h
 split at h
 ·cases h
 rename_i h1
 split at h
 ·cases h
 split at h
 ·cases h
 rename_i h3
 split at h
 ·cases h
 rename_i h4
 split at h
 ·cases h
 rename_i h5
 refine ⟨by simpa using h1,by simpa using h3,by omega,fun hd=>?_⟩
 refine List.eq_nil_of_length_eq_zero ?_
 rcases Nat.eq_zero_or_pos e.D.length with h|h
 ·exact h
 ·exact absurd ⟨h,hd⟩ h5
end Qj
namespace Sx
open Go.RowKit Sha Vi Js Ev Qj

def ValueA (W:World) (ms:List Nat) (e:Ev) (y:SV) (hs:List (List Seg)):Prop :=
 (checkM e≠0∧y=.tup [.agg (jvS jt0 jc0),.c (.int .i64 (checkM e))]∧hs=[[.past W ms]]) ∨
 (checkM e=0∧∃ x W' ms',Later W ms W' ms'∧TAt W' ms' 2 (evJ e) x∧y=.tup [.agg (jvS (evJ e) x),.c (.int .i64 0)]∧hs=[[.past W' ms']])
theorem RowJ.frz2 {W:World} {ms:List Nat} {A:Addr} {F:Nat→Bool} {α:Nat→Addr} {n c d:Nat} {cs:List SC} {l:List JT} {g:Nat→SC} (k:RowJ W ms d cs l) (hg:∀ j,j<cs.length→((g j).rz F α).raw=nthC cs j)
  (h:flat [.row (scale c (4+1)) g]≠[]→ImAt W ms A (((flat [.row (scale c (4+1)) g]).map (SC.rz F α)).map SC.raw)∧(marksOk=false→Unm W ms A)) (hmk:marksOk=false) (hn:l.length=n) (hc:n≤c) (hcap:n≤9223372036854775807) :
  l.length=n∧n≤c∧n≤9223372036854775807∧(some (A.add (0+0))=none→c=0)∧∀ B,some (A.add (0+0))=some B→n≠0→Unm W ms B∧∀ j e,l[j]?=some e→∃ y,ImAt W ms (B.add (j*5)) (flat (jvS e y))∧TAt W ms d e y:=by
 refine ⟨hn,hc,hcap,(fun e=>by cases e),fun B hB hn0=>?_⟩
 injection hB with hB
 subst hB
 have hne:flat [.row (scale c (4+1)) g]≠[]:=by
  intro e
  have:=congrArg List.length e
  simp [flat,sc5] at this
  omega
 obtain ⟨h1,h2⟩:=h hne
 rw [show A.add (0+0)=A from h1.zero]
 refine ⟨h2 hmk,fun j e he=>?_⟩
 obtain ⟨x,x1,x2⟩:=k.elt j e he
 have hj:j<n:=by rw [← hn]; exact (List.getElem?_eq_some_iff.1 he).1
 refine ⟨x,h1.part (j*5) fun i y hy=>?_,x2⟩
 have hi:i<5:=(List.getElem?_eq_some_iff.1 hy).1
 have hcs:=x1 i y hy
 have hlen:=k.len
 have hjn:j*5+i<scale c (4+1):=by rw [sc5]; omega
 rw [List.getElem?_map,List.getElem?_map]
 simp only [flat,List.append_nil,List.getElem?_map,List.getElem?_range hjn,Option.map_some]
 rw [hg _ ((List.getElem?_eq_some_iff.1 hcs).1),nthC_get? hcs]
theorem rz_app {g:Nat→Nat} {F:Nat→Bool} {α:Nat→Addr} {cs D E:List SC} (hr:∀ x∈cs,x.raw=x) (hl:D.length=E.length) (hD:∀ i,i<D.length→((SC.mp g (nthC D i)).rz F α).raw=nthC E i) (j:Nat) (hj:j<(cs++E).length):((SC.mp g (nthC (cs++D) j)).rz F α).raw=nthC (cs++E) j:=by
 rw [List.length_append] at hj
 rcases Nat.lt_or_ge j cs.length with h|h
 ·rw [nthJ_l h,nthJ_l h,mpJ_raw (hr _ (nthJ_mem h)),rzJ_raw (hr _ (nthJ_mem h))]
 ·rw [nthJ_r h,nthJ_r h]
  exact hD _ (by omega)
set_option maxRecDepth 20000 in
set_option maxHeartbeats 32000000 in
theorem fn_qvalue {W:World} {ms:List Nat} {x:EvC} {e:Ev} (hx:EvAt W ms x e):FnR Tryd.prog tds 12 1 [[.past W ms]] [.agg (evS e x)] (fun _=>True) (ValueA W ms e):=by
 refine fn_of_bodyW tds_ok follows_ Tryd.func12 rfl (t:=.a (.agg (evS e x))::anys (Tryd.f12.ntmps-1)) rfl (fun w r0 hr0 _=>?_)
 obtain ⟨x0,rfl⟩:=len1' hr0
 (repeat show _∧_;first|refine yr ?_|refine yt ?_|refine yf ?_|refine yo ?_)
 refine call_same (fn_echeck hx) [0] rfl (by (repeat first|exact trivial|refine ent1 ?_)) (by (repeat first|exact trivial|refine ent1 ?_)) (fun _ _=>trivial) ?_
 rintro y hs ⟨rfl,rfl⟩
 by_cases hc:checkM e=0
 rotate_left
 ·have f1:decide (checkM e≠0)=true:=decide_eq_true hc
  (repeat show _∧_;first|refine yr ?_|refine yt ?_|refine yf ?_|refine ya f1 ?_|refine yb f1 ?_|refine yo ?_)
  exact FinW.of ⟨.tup [.agg (jvS jt0 jc0),.c (.int .i64 (checkM e))],_,⟨[0],⟨rfl,rfl,rfl⟩,by (repeat first|exact trivial|refine ent1 ?_)⟩,.inl ⟨hc,rfl,rfl⟩⟩
 obtain ⟨k1,k2,k3,k4⟩:=check0 hc
 have k5:=names_data e.k k1
 have k6:=names_le9 e.k
 rw [hc]
 (repeat show _∧_;first|refine yr ?_|refine yt ?_|refine yf ?_|refine yo ?_)
 refine call_same (fn_eof e.k) [] rfl (by (repeat first|exact trivial|refine ent1 ?_)) trivial (fun _ _=>trivial) ?_
 rintro y hs ⟨rfl,rfl⟩
 have hDN:dataNs e.k=(evNames e.k).map nsB++if evData e.k=true then [idB] else []:=rfl
 obtain ⟨l,hl⟩:∃ l,evNames e.k=l:=⟨_,rfl⟩
 rw [hl] at k2 k5 k6 hDN ⊢
 clear hl
 (repeat show _∧_;first|refine yr ?_|refine yt ?_|refine yf ?_|refine yo ?_)
 cases l with
 | nil =>
  have hd:=k5 rfl
  refine .inr ⟨1,?_⟩
  (repeat show _∧_;first|refine yr ?_|refine yt ?_|refine yf ?_|refine ya hd ?_|refine yb hd ?_|refine yo ?_)
  have hN0:e.N=[]:=List.eq_nil_of_length_eq_zero k2
  have hDL:dataL e=[]:=by unfold dataL; rw [hN0,hd]; rfl
  have hDN:dataNs e.k=[]:=by rw [hDN,hd]; rfl
  refine call_same (fn_qnum e.t) [] rfl (by (repeat first|exact trivial|refine ent1 ?_)) trivial (fun _ _=>trivial) ?_
  rintro y hs ⟨rfl,rfl⟩
  (repeat show _∧_;first|refine yr ?_|refine yt ?_|refine yf ?_|refine yo ?_)
  refine call_same (fn_qadd0 (tNum e.t) jc0 timeB) [6] rfl (by (repeat first|exact trivial|refine ent1 ?_)) (by (repeat first|exact trivial|refine ent1 ?_)) (fun _ _=>trivial) ?_
  rintro y hs ⟨c3,d3,hc3,hd3,rfl,rfl⟩
  (repeat show _∧_;first|refine yr ?_|refine yt ?_|refine yf ?_|refine yo ?_)
  refine call_same (fn_qtext (evNm e.k)) [] rfl (by exact And.intro (U8_nsB _).symm trivial) trivial (fun _ _=>trivial) ?_
  rintro y hs ⟨rfl,rfl⟩
  (repeat show _∧_;first|refine yr ?_|refine yt ?_|refine yf ?_|refine yo ?_)
  refine call_same (fn_qadd1 (flat (jvS (tNum e.t) jc0)) [timeB] 1 c3 d3 (jv_raw _ _) rfl rfl hc3 hd3 (by decide) (tText (evNm e.k)) jc0 nameB) [6,7,8] rfl (by (repeat first|exact trivial|refine ent1 ?_)) ?_ (fun _ _=>trivial) ?_
  ·(repeat first|exact trivial|refine ent1 ?_)
   refine ⟨fun j hj=>eqJ_csM (jv_raw _ _) j,?_⟩
   (repeat first|exact trivial|refine ent1 ?_)
   exact ⟨fun j hj=>eqJ_csM (nmL_raw _) j,by (repeat first|exact trivial|refine ent1 ?_)⟩
  rintro y hs ⟨c4,d4,hc4,hd4,rfl,rfl⟩
  have hraw2:∀ y∈flat (jvS (tNum e.t) jc0)++flat (jvS (tText (evNm e.k)) jc0),y.raw=y:=fun y hy=>(List.mem_append.1 hy).elim (jv_raw _ _ y) (jv_raw _ _ y)
  obtain ⟨cs2,hcs2⟩:∃ cs2,flat (jvS (tNum e.t) jc0)++flat (jvS (tText (evNm e.k)) jc0)=cs2:=⟨_,rfl⟩
  have hlen2:cs2.length=2*5:=by rw [← hcs2]; rfl
  rw [hcs2] at hraw2 ⊢
  (repeat show _∧_;first|refine yr ?_|refine yt ?_|refine yf ?_|refine yo ?_)
  refine call_same (fn_qadd1 cs2 [timeB,nameB] 2 c4 d4 hraw2 hlen2 rfl hc4 hd4 (by decide) (dataJ e) jc0 dataB) [6,9,10] rfl (by (repeat first|exact trivial|refine ent1 ?_)) ?_ (fun _ _=>trivial) ?_
  ·(repeat first|exact trivial|refine ent1 ?_)
   refine ⟨fun j hj=>eqJ_csM hraw2 j,?_⟩
   (repeat first|exact trivial|refine ent1 ?_)
   exact ⟨fun j hj=>eqJ_csM (nmL_raw _) j,by (repeat first|exact trivial|refine ent1 ?_)⟩
  rintro y hs ⟨c5,d5,hc5,hd5,rfl,rfl⟩
  (repeat show _∧_;first|refine yr ?_|refine yt ?_|refine yf ?_|refine yo ?_)
  refine finW_frzU [0] rfl (Nat.zero_lt_one) cx0_m rfl (fun W9 ms9 α hL9 hI=>?_)
  have hdat:TAt W9 ms9 1 (dataJ e) jc0:=TAt.leaf (v:=dataJ e) hDL hDN 1
  have hroot:RowJ W9 ms9 1 (cs2++flat (jvS (dataJ e) jc0)) [tNum e.t,tText (evNm e.k),dataJ e]:=by
   rw [← hcs2]
   exact ((RowJ.nil.snoc (v:=tNum e.t) (x:=jc0) (TAt.leaf rfl rfl 1)).snoc (v:=tText (evNm e.k)) (x:=jc0) (TAt.leaf rfl rfl 1)).snoc hdat
  have hrawF:∀ y∈cs2++flat (jvS (dataJ e) jc0),y.raw=y:=fun y hy=>(List.mem_append.1 hy).elim (hraw2 y) (jv_raw _ _ y)
  have hfn:=strs_frz (l:=[timeB,nameB,dataB].map U8) (F:=fun j=>!memB j [0]) (fun j hj=>mpJ_raw (nmL_raw _ _ (nthJ_mem (l:=nmJ [timeB,nameB,dataB]) hj))) (fun h=>(hI 12 rfl h).1) (n:=3) rfl hd5 (by decide)
  refine ⟨.tup [.agg (jvS (evJ e) ⟨some ((α 11).add (0+0)),3,c5,some ((α 12).add (0+0)),3,d5⟩),.c (.int .i64 0)],[],⟨⟨rfl,rfl,rfl⟩,?_⟩,.inr ⟨hc,⟨some ((α 11).add (0+0)),3,c5,some ((α 12).add (0+0)),3,d5⟩,W9,ms9,hL9,⟨hroot.frz2 (F:=fun j=>!memB j [0]) (fun j hj=>by simp only [mpJ_raw (hrawF _ (nthJ_mem hj)),rzJ_raw (hrawF _ (nthJ_mem hj))]) (hI 11 rfl) marks_off (n:=3) rfl hc5 (by decide),hfn⟩,rfl,rfl⟩⟩
  ·(repeat first|exact trivial|refine ent1 ?_)
 | cons nm0 l0 =>
 obtain ⟨l,hl⟩:∃ l,nm0::l0=l:=⟨_,rfl⟩
 have hl0:0<l.length:=by rw [← hl]; simp
 have hstB:stB (nm0::l0)=[.row l.length (strsF l)]:=by rw [← hl]; rfl
 have hstC:∀ i,stC i (nm0::l0)=.sn false i 0 0 l.length l.length:=by intro i; rw [← hl]; rfl
 rw [hl] at k2 k6 hDN
 clear k5
 rw [hstB,hstC]
 clear hstB hstC hl
 (repeat show _∧_;first|refine yr ?_|refine yt ?_|refine yf ?_|refine yo ?_)
 refine .inl ⟨Nat × Option (List SC × Nat × Nat),fun y=>match y with
  | (j,none)=>⟨[.any,.a (.c (.p 1 0 0)),.a (.c (.p 2 0 0)),.a (.c (.int .i64 (0))),.any,.a (.c (.p 4 0 0)),.any,.a (.c (.p 5 0 0)),.any,.any,.any,.any,.any,.any,.any,.any,.any,.any,.any,.any,.any,.any,.any,.any,.any,.a (.c (.sn false 3 0 0 l.length l.length)),.a (.c (.int .i64 (l.length))),.a (.c (.int .i64 (((j:Nat):Int)))),.any,.any,.any,.any,.any,.any,.any,.any,.any,.any,.any,.any,.any,.any,.any,.any,.any,.any,.any,.any,.any,.any,.any,.any,.any,.any,.any,.any,.any,.any],[[.past W ms],evS e x,vz,[.row l.length (strsF l)],[.one (.str (evName e.k)),.one (.sn false 3 0 0 l.length l.length),.one (.bool (evData e.k))],vo0]⟩
  | (j,some (cs,c,d))=>⟨[.any,.a (.c (.p 1 0 0)),.a (.c (.p 2 0 0)),.a (.c (.int .i64 (0))),.any,.a (.c (.p 4 0 0)),.any,.a (.c (.p 5 0 0)),.any,.any,.any,.any,.any,.any,.any,.any,.any,.any,.any,.any,.any,.any,.any,.any,.any,.a (.c (.sn false 3 0 0 l.length l.length)),.a (.c (.int .i64 (l.length))),.a (.c (.int .i64 (((j:Nat):Int)))),.any,.any,.any,.any,.any,.any,.any,.any,.any,.any,.any,.any,.any,.any,.any,.any,.any,.any,.any,.any,.any,.any,.any,.any,.any,.any,.any,.any,.any,.any],[[.past W ms],evS e x,vz,[.row l.length (strsF l)],[.one (.str (evName e.k)),.one (.sn false 3 0 0 l.length l.length),.one (.bool (evData e.k))],vo1 6 j c 7 j d,[.row (scale c (4+1)) (nthC cs)],[.row (scale d (0+1)) (nthC (nmJ ((l.take j).map nsB)))]]⟩,
  fun y=>match y with
  | (j,none)=>j=0
  | (j,some (cs,c,d))=>0<j∧j≤l.length∧j≤c∧j≤d∧RowJ W ms 0 cs ((e.N.take j).map tNum),fun y=>l.length-y.1,⟨(0,none),[0,1,2,3,4,5],⟨⟨rfl,rfl,rfl⟩,?_⟩,rfl⟩,fun y hy=>?_⟩
 ·(repeat first|exact trivial|refine ent1 ?_)
  exact ⟨fun j hj=>eqC_strsM l hj,by (repeat first|exact trivial|refine ent1 ?_)⟩
 rcases y with ⟨j,_|⟨cs,c,d⟩⟩
 ·obtain rfl:j=0:=hy
  dsimp only
  have hj:0<l.length:=hl0
  have e1:decide (((0:Nat):Int)<(l.length:Int))=true:=decide_eq_true (by omega)
  have hjN:0<e.N.length:=by omega
  have hsj:strsF l 0=.str (U8 (nsB (l[0]'hj))):=by rw [U8_nsB]; obtain ⟨s,h1,h2⟩:=nthC_str l 0 hj; rw [List.getElem?_eq_getElem hj] at h2; injection h2 with h2; rw [h2]; exact h1
  have hlt:(l.take (0+1)).map nsB=(l.take 0).map nsB++[nsB (l[0]'hj)]:=by rw [List.take_add_one,List.getElem?_eq_getElem hj,Option.toList_some,List.map_append]; rfl
  have hNt:(e.N.take (0+1)).map tNum=(e.N.take 0).map tNum++[tNum (e.N[0]'hjN)]:=by rw [List.take_add_one,List.getElem?_eq_getElem hjN,Option.toList_some,List.map_append]; rfl
  have hnum:=fn_qnum1 hx 0 hjN
  generalize (l[0]'hj)=nm at hsj hlt
  generalize (e.N[0]'hjN)=n at hNt hnum
  (repeat show _∧_;first|refine yr ?_|refine yt ?_|refine yf ?_|refine ya e1 ?_|refine yb e1 ?_|refine yo ?_)
  refine frc_atQ (y:=.str (U8 (nsB nm))) (by exact hsj) ?_
  (repeat show _∧_;first|refine yr ?_|refine yt ?_|refine yf ?_|refine yo ?_)
  refine call_same hnum [0] rfl (by (repeat first|exact trivial|refine ent1 ?_)) (by (repeat first|exact trivial|refine ent1 ?_)) (fun _ _=>trivial) ?_
  rintro y hs ⟨rfl,rfl⟩
  (repeat show _∧_;first|refine yr ?_|refine yt ?_|refine yf ?_|refine yo ?_)
  refine call_same (fn_qnum n) [] rfl (by (repeat first|exact trivial|refine ent1 ?_)) trivial (fun _ _=>trivial) ?_
  rintro y hs ⟨rfl,rfl⟩
  (repeat show _∧_;first|refine yr ?_|refine yt ?_|refine yf ?_|refine yo ?_)
  refine call_same (fn_qadd0 (tNum n) jc0 (nsB nm)) [5] rfl (by (repeat first|exact trivial|refine ent1 ?_)) (by (repeat first|exact trivial|refine ent1 ?_)) (fun _ _=>trivial) ?_
  rintro y hs ⟨c2,d2,hc2,hd2,rfl,rfl⟩
  (repeat show _∧_;first|refine yr ?_|refine yt ?_|refine yf ?_|refine yo ?_)
  refine ⟨(1,some (flat (jvS (tNum n) jc0),c2,d2)),[0,1,2,3,4,5,6,7],⟨⟨rfl,rfl,rfl⟩,?_⟩,⟨Nat.zero_lt_one,hl0,hc2,hd2,?_⟩,by dsimp only; omega⟩
  ·dsimp only
   rw [hlt]
   (repeat first|exact trivial|refine ent1 ?_)
   refine ⟨fun j hj=>eqC_strs l hj,?_⟩
   (repeat first|exact trivial|refine ent1 ?_)
   refine ⟨fun j hj=>eqJ_csM (jv_raw _ _) j,?_⟩
   (repeat first|exact trivial|refine ent1 ?_)
   exact ⟨fun j hj=>eqJ_csM (nmL_raw _) j,by (repeat first|exact trivial|refine ent1 ?_)⟩
  ·rw [hNt]
   exact RowJ.nil.snoc (TAt.leaf rfl rfl 0)
 ·obtain ⟨h1,h2,h3,h4,hrow⟩:=hy
  dsimp only
  have hrl:=hrow.len
  rw [List.length_map,List.length_take] at hrl
  by_cases hj:j<l.length
  rotate_left
  ·have e1:decide ((j:Int)<(l.length:Int))=false:=decide_eq_false (by omega)
   obtain rfl:j=l.length:=by omega
   rw [List.take_length]
   rw [List.take_of_length_le (by omega)] at hrow
   cases hd:evData e.k
   ·(repeat show _∧_;first|refine yr ?_|refine yt ?_|refine yf ?_|refine ya e1 ?_|refine yb e1 ?_|refine ya hd ?_|refine yb hd ?_|refine yo ?_)
    have hrowD:RowJ W ms 0 cs (dataL e):=by rwa [show dataL e=e.N.map tNum by unfold dataL; rw [hd,if_neg (by decide),List.append_nil]]
    have hDN:dataNs e.k=l.map nsB:=by rw [hDN,hd,if_neg (by decide),List.append_nil]
    refine call_same (fn_qnum e.t) [] rfl (by (repeat first|exact trivial|refine ent1 ?_)) trivial (fun _ _=>trivial) ?_
    rintro y hs ⟨rfl,rfl⟩
    (repeat show _∧_;first|refine yr ?_|refine yt ?_|refine yf ?_|refine yo ?_)
    refine call_same (fn_qadd0 (tNum e.t) jc0 timeB) [8] rfl (by (repeat first|exact trivial|refine ent1 ?_)) (by (repeat first|exact trivial|refine ent1 ?_)) (fun _ _=>trivial) ?_
    rintro y hs ⟨c3,d3,hc3,hd3,rfl,rfl⟩
    (repeat show _∧_;first|refine yr ?_|refine yt ?_|refine yf ?_|refine yo ?_)
    refine call_same (fn_qtext (evNm e.k)) [] rfl (by exact And.intro (U8_nsB _).symm trivial) trivial (fun _ _=>trivial) ?_
    rintro y hs ⟨rfl,rfl⟩
    (repeat show _∧_;first|refine yr ?_|refine yt ?_|refine yf ?_|refine yo ?_)
    refine call_same (fn_qadd1 (flat (jvS (tNum e.t) jc0)) [timeB] 1 c3 d3 (jv_raw _ _) rfl rfl hc3 hd3 (by decide) (tText (evNm e.k)) jc0 nameB) [8,9,10] rfl (by (repeat first|exact trivial|refine ent1 ?_)) ?_ (fun _ _=>trivial) ?_
    ·(repeat first|exact trivial|refine ent1 ?_)
     refine ⟨fun j hj=>eqJ_csM (jv_raw _ _) j,?_⟩
     (repeat first|exact trivial|refine ent1 ?_)
     exact ⟨fun j hj=>eqJ_csM (nmL_raw _) j,by (repeat first|exact trivial|refine ent1 ?_)⟩
    rintro y hs ⟨c4,d4,hc4,hd4,rfl,rfl⟩
    have hraw2:∀ y∈flat (jvS (tNum e.t) jc0)++flat (jvS (tText (evNm e.k)) jc0),y.raw=y:=fun y hy=>(List.mem_append.1 hy).elim (jv_raw _ _ y) (jv_raw _ _ y)
    obtain ⟨cs2,hcs2⟩:∃ cs2,flat (jvS (tNum e.t) jc0)++flat (jvS (tText (evNm e.k)) jc0)=cs2:=⟨_,rfl⟩
    have hlen2:cs2.length=2*5:=by rw [← hcs2]; rfl
    rw [hcs2] at hraw2 ⊢
    (repeat show _∧_;first|refine yr ?_|refine yt ?_|refine yf ?_|refine yo ?_)
    refine call_same (fn_qadd2 cs2 [timeB,nameB] 2 c4 d4 hraw2 hlen2 rfl hc4 hd4 (by decide) l.length c l.length d (nthC cs) (nthC (nmJ (l.map nsB))) (scale c (4+1)) (scale d (0+1)) (fun q j=>eqJ_cs hrowD.raw (fun _ _=>rfl) j) (fun q j=>eqJ_cs (nmL_raw _) (fun _ _=>rfl) j) dataB) [8,11,12,6,7] rfl (by (repeat first|exact trivial|refine ent1 ?_)) ?_ (fun _ _=>trivial) ?_
    ·(repeat first|exact trivial|refine ent1 ?_)
     refine ⟨fun j hj=>eqJ_csM hraw2 j,?_⟩
     (repeat first|exact trivial|refine ent1 ?_)
     refine ⟨fun j hj=>eqJ_csM (nmL_raw _) j,?_⟩
     (repeat first|exact trivial|refine ent1 ?_)
     refine ⟨fun j hj=>eqJ_cs hrowD.raw (fun _ _=>rfl) j,?_⟩
     (repeat first|exact trivial|refine ent1 ?_)
     exact ⟨fun j hj=>eqJ_cs (nmL_raw _) (fun _ _=>rfl) j,by (repeat first|exact trivial|refine ent1 ?_)⟩
    rintro y hs ⟨c5,d5,hc5,hd5,rfl,rfl⟩
    (repeat show _∧_;first|refine yr ?_|refine yt ?_|refine yf ?_|refine yo ?_)
    refine finW_frzU [0] rfl (Nat.zero_lt_one) cx0_m rfl (fun W9 ms9 α hL9 hI=>?_)
    have hdl:(dataL e).length=l.length:=by have:=hrowD.len; unfold dataL; rw [hd,if_neg (by decide),List.length_append,List.length_map,k2]; rfl
    have hdat:TAt W9 ms9 1 (dataJ e) ⟨some ((α 6).add (0+0)),l.length,c,some ((α 7).add (0+0)),l.length,d⟩:=⟨(hrowD.later hL9).frz2 (F:=fun j=>!memB j [0]) (fun j hj=>by simp only [mpJ_raw (hrowD.raw _ (nthJ_mem hj)),rzJ_raw (hrowD.raw _ (nthJ_mem hj))]) (hI 6 rfl) marks_off (n:=l.length) hdl h3 (by omega),?_⟩
    rotate_left
    ·show StAt W9 ms9 _ _ _ ((dataNs e.k).map U8)
     rw [hDN]
     exact strs_frz (l:=(l.map nsB).map U8) (F:=fun j=>!memB j [0]) (fun j hj=>mpJ_raw (nmL_raw _ _ (nthJ_mem (l:=nmJ (l.map nsB)) hj))) (fun h=>(hI 7 rfl h).1) (n:=l.length) (by simp) h4 (by omega)
    have hroot:RowJ W9 ms9 1 (cs2++flat (jvS (dataJ e) ⟨some ((α 6).add (0+0)),l.length,c,some ((α 7).add (0+0)),l.length,d⟩)) [tNum e.t,tText (evNm e.k),dataJ e]:=by
     rw [← hcs2]
     exact ((RowJ.nil.snoc (v:=tNum e.t) (x:=jc0) (TAt.leaf rfl rfl 1)).snoc (v:=tText (evNm e.k)) (x:=jc0) (TAt.leaf rfl rfl 1)).snoc hdat
    have hfn:=strs_frz (l:=[timeB,nameB,dataB].map U8) (F:=fun j=>!memB j [0]) (fun j hj=>mpJ_raw (nmL_raw _ _ (nthJ_mem (l:=nmJ [timeB,nameB,dataB]) hj))) (fun h=>(hI 14 rfl h).1) (n:=3) rfl hd5 (by decide)
    refine ⟨.tup [.agg (jvS (evJ e) ⟨some ((α 13).add (0+0)),3,c5,some ((α 14).add (0+0)),3,d5⟩),.c (.int .i64 0)],[],⟨⟨rfl,rfl,rfl⟩,?_⟩,.inr ⟨hc,⟨some ((α 13).add (0+0)),3,c5,some ((α 14).add (0+0)),3,d5⟩,W9,ms9,hL9,⟨hroot.frz2 (F:=fun j=>!memB j [0]) (fun j hj=>rz_app (g:=bk 13 [8,11,12,6,7]) (D:=[.w8 6#8,.w64 0#64,.str [],.sl 3 0 0 l.length c,.sl 4 0 0 l.length d]) (E:=flat (jvS (dataJ e) ⟨some ((α 6).add (0+0)),l.length,c,some ((α 7).add (0+0)),l.length,d⟩)) hraw2 rfl (fun i hi=>?_) j hj) (hI 13 rfl) marks_off (n:=3) rfl hc5 (by decide),hfn⟩,rfl,rfl⟩⟩
    ·(repeat first|exact trivial|refine ent1 ?_)
    match i,hi with
    | 0,_=>rfl
    | 1,_=>rfl
    | 2,_=>rfl
    | 3,_=>rfl
    | 4,_=>rfl
   ·(repeat show _∧_;first|refine yr ?_|refine yt ?_|refine yf ?_|refine ya e1 ?_|refine yb e1 ?_|refine ya hd ?_|refine yb hd ?_|refine yo ?_)
    refine call_same (fn_qdigits hx.D (by omega)) [0] rfl (by (repeat first|exact trivial|refine ent1 ?_)) (by (repeat first|exact trivial|refine ent1 ?_)) (fun _ _=>trivial) ?_
    rintro y hs ⟨rfl,rfl⟩
    (repeat show _∧_;first|refine yr ?_|refine yt ?_|refine yf ?_|refine yo ?_)
    refine call_same (fn_qtext (hexB e.D)) [] rfl (by (repeat first|exact trivial|refine ent1 ?_)) trivial (fun _ _=>trivial) ?_
    rintro y hs ⟨rfl,rfl⟩
    (repeat show _∧_;first|refine yr ?_|refine yt ?_|refine yf ?_|refine yo ?_)
    refine call_same (fn_qadd1 cs (l.map nsB) l.length c d hrow.raw (by omega) (by rw [List.length_map]) h3 h4 (by omega) (tText (hexB e.D)) jc0 idB) [5,6,7] rfl (by (repeat first|exact trivial|refine ent1 ?_)) ?_ (fun _ _=>trivial) ?_
    ·(repeat first|exact trivial|refine ent1 ?_)
     refine ⟨fun j hj=>eqJ_cs hrow.raw (fun _ _=>rfl) j,?_⟩
     (repeat first|exact trivial|refine ent1 ?_)
     exact ⟨fun j hj=>eqJ_cs (nmL_raw _) (fun _ _=>rfl) j,by (repeat first|exact trivial|refine ent1 ?_)⟩
    rintro y hs ⟨c0,d0,hc0,hd0,rfl,rfl⟩
    have hrowD:RowJ W ms 0 (cs++flat (jvS (tText (hexB e.D)) jc0)) (dataL e):=by
     have:=hrow.snoc (v:=tText (hexB e.D)) (x:=jc0) (TAt.leaf rfl rfl 0)
     rwa [show dataL e=e.N.map tNum++[tText (hexB e.D)] by unfold dataL; rw [hd,if_pos rfl]]
    have hDN:dataNs e.k=l.map nsB++[idB]:=by rw [hDN,hd,if_pos rfl]
    generalize cs++flat (jvS (tText (hexB e.D)) jc0)=cs0 at hrowD ⊢
    (repeat show _∧_;first|refine yr ?_|refine yt ?_|refine yf ?_|refine yo ?_)
    refine call_same (fn_qnum e.t) [] rfl (by (repeat first|exact trivial|refine ent1 ?_)) trivial (fun _ _=>trivial) ?_
    rintro y hs ⟨rfl,rfl⟩
    (repeat show _∧_;first|refine yr ?_|refine yt ?_|refine yf ?_|refine yo ?_)
    refine call_same (fn_qadd0 (tNum e.t) jc0 timeB) [10] rfl (by (repeat first|exact trivial|refine ent1 ?_)) (by (repeat first|exact trivial|refine ent1 ?_)) (fun _ _=>trivial) ?_
    rintro y hs ⟨c3,d3,hc3,hd3,rfl,rfl⟩
    (repeat show _∧_;first|refine yr ?_|refine yt ?_|refine yf ?_|refine yo ?_)
    refine call_same (fn_qtext (evNm e.k)) [] rfl (by exact And.intro (U8_nsB _).symm trivial) trivial (fun _ _=>trivial) ?_
    rintro y hs ⟨rfl,rfl⟩
    (repeat show _∧_;first|refine yr ?_|refine yt ?_|refine yf ?_|refine yo ?_)
    refine call_same (fn_qadd1 (flat (jvS (tNum e.t) jc0)) [timeB] 1 c3 d3 (jv_raw _ _) rfl rfl hc3 hd3 (by decide) (tText (evNm e.k)) jc0 nameB) [10,11,12] rfl (by (repeat first|exact trivial|refine ent1 ?_)) ?_ (fun _ _=>trivial) ?_
    ·(repeat first|exact trivial|refine ent1 ?_)
     refine ⟨fun j hj=>eqJ_csM (jv_raw _ _) j,?_⟩
     (repeat first|exact trivial|refine ent1 ?_)
     exact ⟨fun j hj=>eqJ_csM (nmL_raw _) j,by (repeat first|exact trivial|refine ent1 ?_)⟩
    rintro y hs ⟨c4,d4,hc4,hd4,rfl,rfl⟩
    have hraw2:∀ y∈flat (jvS (tNum e.t) jc0)++flat (jvS (tText (evNm e.k)) jc0),y.raw=y:=fun y hy=>(List.mem_append.1 hy).elim (jv_raw _ _ y) (jv_raw _ _ y)
    obtain ⟨cs2,hcs2⟩:∃ cs2,flat (jvS (tNum e.t) jc0)++flat (jvS (tText (evNm e.k)) jc0)=cs2:=⟨_,rfl⟩
    have hlen2:cs2.length=2*5:=by rw [← hcs2]; rfl
    rw [hcs2] at hraw2 ⊢
    (repeat show _∧_;first|refine yr ?_|refine yt ?_|refine yf ?_|refine yo ?_)
    refine call_same (fn_qadd2 cs2 [timeB,nameB] 2 c4 d4 hraw2 hlen2 rfl hc4 hd4 (by decide) (l.length+1) c0 (l.length+1) d0 (nthC cs0) (nthC (nmJ (l.map nsB++[idB]))) (scale c0 (4+1)) (scale d0 (0+1)) (fun q j=>eqJ_cs hrowD.raw (fun _ _=>rfl) j) (fun q j=>eqJ_cs (nmL_raw _) (fun _ _=>rfl) j) dataB) [10,13,14,8,9] rfl (by (repeat first|exact trivial|refine ent1 ?_)) ?_ (fun _ _=>trivial) ?_
    ·(repeat first|exact trivial|refine ent1 ?_)
     refine ⟨fun j hj=>eqJ_csM hraw2 j,?_⟩
     (repeat first|exact trivial|refine ent1 ?_)
     refine ⟨fun j hj=>eqJ_csM (nmL_raw _) j,?_⟩
     (repeat first|exact trivial|refine ent1 ?_)
     refine ⟨fun j hj=>eqJ_csM hrowD.raw j,?_⟩
     (repeat first|exact trivial|refine ent1 ?_)
     exact ⟨fun j hj=>eqJ_csM (nmL_raw _) j,by (repeat first|exact trivial|refine ent1 ?_)⟩
    rintro y hs ⟨c5,d5,hc5,hd5,rfl,rfl⟩
    (repeat show _∧_;first|refine yr ?_|refine yt ?_|refine yf ?_|refine yo ?_)
    refine finW_frzU [0] rfl (Nat.zero_lt_one) cx0_m rfl (fun W9 ms9 α hL9 hI=>?_)
    have hdl:(dataL e).length=(l.length+1):=by have:=hrowD.len; unfold dataL; rw [hd,if_pos rfl,List.length_append,List.length_map,k2]; rfl
    have hdat:TAt W9 ms9 1 (dataJ e) ⟨some ((α 8).add (0+0)),(l.length+1),c0,some ((α 9).add (0+0)),(l.length+1),d0⟩:=⟨(hrowD.later hL9).frz2 (F:=fun j=>!memB j [0]) (fun j hj=>by simp only [mpJ_raw (hrowD.raw _ (nthJ_mem hj)),rzJ_raw (hrowD.raw _ (nthJ_mem hj))]) (hI 8 rfl) marks_off (n:=(l.length+1)) hdl hc0 (by omega),?_⟩
    rotate_left
    ·show StAt W9 ms9 _ _ _ ((dataNs e.k).map U8)
     rw [hDN]
     exact strs_frz (l:=(l.map nsB++[idB]).map U8) (F:=fun j=>!memB j [0]) (fun j hj=>mpJ_raw (nmL_raw _ _ (nthJ_mem (l:=nmJ (l.map nsB++[idB])) hj))) (fun h=>(hI 9 rfl h).1) (n:=(l.length+1)) (by simp) hd0 (by omega)
    have hroot:RowJ W9 ms9 1 (cs2++flat (jvS (dataJ e) ⟨some ((α 8).add (0+0)),(l.length+1),c0,some ((α 9).add (0+0)),(l.length+1),d0⟩)) [tNum e.t,tText (evNm e.k),dataJ e]:=by
     rw [← hcs2]
     exact ((RowJ.nil.snoc (v:=tNum e.t) (x:=jc0) (TAt.leaf rfl rfl 1)).snoc (v:=tText (evNm e.k)) (x:=jc0) (TAt.leaf rfl rfl 1)).snoc hdat
    have hfn:=strs_frz (l:=[timeB,nameB,dataB].map U8) (F:=fun j=>!memB j [0]) (fun j hj=>mpJ_raw (nmL_raw _ _ (nthJ_mem (l:=nmJ [timeB,nameB,dataB]) hj))) (fun h=>(hI 16 rfl h).1) (n:=3) rfl hd5 (by decide)
    refine ⟨.tup [.agg (jvS (evJ e) ⟨some ((α 15).add (0+0)),3,c5,some ((α 16).add (0+0)),3,d5⟩),.c (.int .i64 0)],[],⟨⟨rfl,rfl,rfl⟩,?_⟩,.inr ⟨hc,⟨some ((α 15).add (0+0)),3,c5,some ((α 16).add (0+0)),3,d5⟩,W9,ms9,hL9,⟨hroot.frz2 (F:=fun j=>!memB j [0]) (fun j hj=>rz_app (g:=bk 15 [10,13,14,8,9]) (D:=[.w8 6#8,.w64 0#64,.str [],.sl 3 0 0 (l.length+1) c0,.sl 4 0 0 (l.length+1) d0]) (E:=flat (jvS (dataJ e) ⟨some ((α 8).add (0+0)),(l.length+1),c0,some ((α 9).add (0+0)),(l.length+1),d0⟩)) hraw2 rfl (fun i hi=>?_) j hj) (hI 15 rfl) marks_off (n:=3) rfl hc5 (by decide),hfn⟩,rfl,rfl⟩⟩
    ·(repeat first|exact trivial|refine ent1 ?_)
    match i,hi with
    | 0,_=>rfl
    | 1,_=>rfl
    | 2,_=>rfl
    | 3,_=>rfl
    | 4,_=>rfl
  have e1:decide (((j:Nat):Int)<(l.length:Int))=true:=decide_eq_true (by omega)
  have hjN:j<e.N.length:=by omega
  have hsj:strsF l j=.str (U8 (nsB (l[j]'hj))):=by rw [U8_nsB]; obtain ⟨s,h1,h2⟩:=nthC_str l j hj; rw [List.getElem?_eq_getElem hj] at h2; injection h2 with h2; rw [h2]; exact h1
  have hlt:(l.take (j+1)).map nsB=(l.take j).map nsB++[nsB (l[j]'hj)]:=by rw [List.take_add_one,List.getElem?_eq_getElem hj,Option.toList_some,List.map_append]; rfl
  have hNt:(e.N.take (j+1)).map tNum=(e.N.take j).map tNum++[tNum (e.N[j]'hjN)]:=by rw [List.take_add_one,List.getElem?_eq_getElem hjN,Option.toList_some,List.map_append]; rfl
  have hnum:=fn_qnum1 hx j hjN
  generalize (l[j]'hj)=nm at hsj hlt
  generalize (e.N[j]'hjN)=n at hNt hnum
  (repeat show _∧_;first|refine yr ?_|refine yt ?_|refine yf ?_|refine ya e1 ?_|refine yb e1 ?_|refine yo ?_)
  refine frc_atQ (y:=.str (U8 (nsB nm))) (by exact hsj) ?_
  (repeat show _∧_;first|refine yr ?_|refine yt ?_|refine yf ?_|refine yo ?_)
  refine call_same hnum [0] rfl (by (repeat first|exact trivial|refine ent1 ?_)) (by (repeat first|exact trivial|refine ent1 ?_)) (fun _ _=>trivial) ?_
  rintro y hs ⟨rfl,rfl⟩
  (repeat show _∧_;first|refine yr ?_|refine yt ?_|refine yf ?_|refine yo ?_)
  refine call_same (fn_qnum n) [] rfl (by (repeat first|exact trivial|refine ent1 ?_)) trivial (fun _ _=>trivial) ?_
  rintro y hs ⟨rfl,rfl⟩
  (repeat show _∧_;first|refine yr ?_|refine yt ?_|refine yf ?_|refine yo ?_)
  refine call_same (fn_qadd1 cs ((l.take j).map nsB) j c d hrow.raw (by omega) (by rw [List.length_map,List.length_take]; omega) h3 h4 (by omega) (tNum n) jc0 (nsB nm)) [5,6,7] rfl (by (repeat first|exact trivial|refine ent1 ?_)) ?_ (fun _ _=>trivial) ?_
  ·(repeat first|exact trivial|refine ent1 ?_)
   refine ⟨fun j hj=>eqJ_cs hrow.raw (fun _ _=>rfl) j,?_⟩
   (repeat first|exact trivial|refine ent1 ?_)
   exact ⟨fun j hj=>eqJ_cs (nmL_raw _) (fun _ _=>rfl) j,by (repeat first|exact trivial|refine ent1 ?_)⟩
  rintro y hs ⟨c2,d2,hc2,hd2,rfl,rfl⟩
  (repeat show _∧_;first|refine yr ?_|refine yt ?_|refine yf ?_|refine yo ?_)
  refine ⟨(j+1,some (cs++flat (jvS (tNum n) jc0),c2,d2)),[0,1,2,3,4,5,8,9],⟨⟨rfl,rfl,rfl⟩,?_⟩,⟨by omega,hj,hc2,hd2,?_⟩,by dsimp only; omega⟩
  ·dsimp only
   rw [hlt]
   (repeat first|exact trivial|refine ent1 ?_)
   refine ⟨fun j hj=>eqC_strs l hj,?_⟩
   (repeat first|exact trivial|refine ent1 ?_)
   refine ⟨fun j hj=>eqJ_csM (fun y hy=>(List.mem_append.1 hy).elim (hrow.raw y) (jv_raw _ _ y)) j,?_⟩
   (repeat first|exact trivial|refine ent1 ?_)
   exact ⟨fun j hj=>eqJ_csM (nmL_raw _) j,by (repeat first|exact trivial|refine ent1 ?_)⟩
  ·rw [hNt]
   exact hrow.snoc (TAt.leaf rfl rfl 0)
end Sx
end
section
namespace Qj
open Sha Js Ev
def rotT {α:Type} (b:Nat) (l:List α):Nat→List α
 | 0=>[]
 | i+1=>rotT b l i++(l[(i+b) % l.length]?).toList
theorem rotT_len {α:Type} {b:Nat} {l:List α} (h:0<l.length):∀ i,(rotT b l i).length=i
 | 0=>rfl
 | i+1=>by
  rw [rotT,List.length_append,rotT_len h i,List.getElem?_eq_getElem (Nat.mod_lt _ h)]
  rfl
theorem rotT_step {α:Type} {b i:Nat} {l:List α} (h:0<l.length):rotT b l (i+1)=rotT b l i++[l[(i+b) % l.length]'(Nat.mod_lt _ h)]:=by
 rw [rotT,List.getElem?_eq_getElem (Nat.mod_lt _ h)]
 rfl
end Qj
namespace Sx
open Go.RowKit Sha Vi Js Ev Qj
abbrev zJ:List Seg:=[.one (.w8 0#8),.one (.w64 0#64),.one (.str []),.one (.slc none 0 0),.one (.slc none 0 0)]
set_option maxRecDepth 20000 in
set_option maxHeartbeats 32000000 in
theorem fn_turn {d:Nat} {W:World} {ms:List Nat} {o:JT} {x:JC} (hx:TAt W ms (d+1) o x) {n:Nat} (hn:o.l.length=n) (hns:o.ns.length=n) (h0:0<n) (h20:n≤20) (by_:BitVec 8):FnR Tryd.prog tds 13 2 [[.past W ms],[.one (.w8 by_)]] [.agg (jvS o x),.c (.p 1 0 0)] (fun _=>True)
  (fun y hs=>∃ c e cs,n≤c∧n≤e∧RowJ W ms d cs (rotT by_.toNat o.l n)∧y=.a (.agg (vo1 2 n c 3 n e))∧hs=[[.past W ms],[.one (.w8 by_)],[.row (scale c (4+1)) (nthC cs)],[.row (scale e (0+1)) (nthC (nmJ (rotT by_.toNat o.ns n)))]]):=by
 obtain ⟨⟨m1,m2,m3,m4,m5⟩,hS⟩:=hx
 have hSn:=hS.n1
 have hSle:=hS.le
 have hby:=by_.isLt
 have hSn2:o.ns.length=x.p:=by rw [← hSn,List.length_map]
 obtain ⟨A,m,mc,B,p,pc⟩:=x
 dsimp only at m1 m2 m3 m4 m5 hS hSle hSn2
 obtain rfl:m=n:=by omega
 obtain rfl:p=m:=by omega
 obtain ⟨A,rfl⟩:∃ A',A=some A':=by
  cases A with
  | none=>have:=m4 rfl; omega
  | some A=>exact ⟨A,rfl⟩
 obtain ⟨B,rfl⟩:∃ B',B=some B':=by
  cases B with
  | none=>have:=hS.nil rfl; omega
  | some B=>exact ⟨B,rfl⟩
 have hSi:=hS.im B rfl (by omega)
 have hLi:=(m5 A rfl (by omega)).2
 refine fn_of_body tds_ok follows_ Tryd.func13 rfl (t:=.a (.agg (jvS o ⟨some A,p,mc,some B,p,pc⟩))::.a (.c (.p 1 0 0))::anys (Tryd.f13.ntmps-2)) rfl (fun w r0 hr0 _=>?_)
 obtain ⟨x0,x1,rfl⟩:=len2' hr0
 (repeat show _∧_;first|refine yr ?_|refine yt ?_|refine yf ?_|refine yo ?_)
 refine .inl ⟨Nat × List SC × Nat × Nat,fun y=>match y with
  | (0,_)=>⟨[.any,.a (.c (.p 1 0 0)),.a (.c (.p 2 0 0)),.a (.c (.p 3 0 0)),.a (.c (.int .i64 (((p:Nat):Int)))),.a (.c (.p 4 0 0)),.any,.any,.any,.any,.any,.any,.a (.c (.int .i64 (((p:Nat):Int)))),.a (.c (.int .i64 (((0:Nat):Int)))),.any,.any,.any,.any,.any,.any,.any,.any,.any,.any,.any,.any,.any,.any,.any,.any,.any,.any,.any,.any,.any,.any,.any,.any,.any,.any,.any,.any,.any,.any],[[.past W ms],[.one (.w8 by_)],jvS o ⟨some A,p,mc,some B,p,pc⟩,zJ,vo0]⟩
  | (i+1,cs,c,e)=>⟨[.any,.a (.c (.p 1 0 0)),.a (.c (.p 2 0 0)),.a (.c (.p 3 0 0)),.a (.c (.int .i64 (((p:Nat):Int)))),.a (.c (.p 4 0 0)),.any,.any,.any,.any,.any,.any,.a (.c (.int .i64 (((p:Nat):Int)))),.a (.c (.int .i64 (((i+1:Nat):Int)))),.any,.any,.any,.any,.any,.any,.any,.any,.any,.any,.any,.any,.any,.any,.any,.any,.any,.any,.any,.any,.any,.any,.any,.any,.any,.any,.any,.any,.any,.any],[[.past W ms],[.one (.w8 by_)],jvS o ⟨some A,p,mc,some B,p,pc⟩,zJ,vo1 5 (i+1) c 6 (i+1) e,[.row (scale c (4+1)) (nthC cs)],[.row (scale e (0+1)) (nthC (nmJ (rotT by_.toNat o.ns (i+1))))]]⟩,
  fun y=>match y with
  | (0,_)=>True
  | (i+1,cs,c,e)=>i+1≤p∧i+1≤c∧i+1≤e∧RowJ W ms d cs (rotT by_.toNat o.l (i+1)),fun y=>p-y.1,⟨(0,[],0,0),[0,1,2,3,4],⟨⟨rfl,rfl,rfl⟩,by (repeat first|exact trivial|refine ent1 ?_)⟩,trivial⟩,fun y hy=>?_⟩
 rcases y with ⟨_|i,cs,c,e⟩
 ·dsimp only
  have hlt:0<p:=h0
  have e1:decide (((0:Nat):Int)<((p:Nat):Int))=true:=decide_eq_true (by omega)
  have hlo:0<o.l.length:=by omega
  have hno:0<o.ns.length:=by omega
  have hst:=rotT_step (b:=by_.toNat) (i:=0) hlo
  have hsn:=rotT_step (b:=by_.toNat) (i:=0) hno
  have hq:(0+by_.toNat) % p<p:=Nat.mod_lt _ h0
  have hqv:(((0:Nat):Int)+((by_.toNat:Nat):Int)) % ((p:Nat):Int)=(((0+by_.toNat) % p:Nat):Int):=by rw [← Int.natCast_add,← Int.natCast_emod]
  have hgl:o.l[(0+by_.toNat) % p]?=some (o.l[(0+by_.toNat) % o.l.length]'(Nat.mod_lt _ hlo)):=by rw [List.getElem?_eq_getElem (by omega)]; simp only [hn]
  have hgn:o.ns[(0+by_.toNat) % p]?=some (o.ns[(0+by_.toNat) % o.ns.length]'(Nat.mod_lt _ hno)):=by rw [List.getElem?_eq_getElem (by omega)]; simp only [hns]
  generalize (o.l[(0+by_.toNat) % o.l.length]'(Nat.mod_lt _ hlo))=ev at hst hgl
  generalize (o.ns[(0+by_.toNat) % o.ns.length]'(Nat.mod_lt _ hno))=nm at hsn hgn
  obtain ⟨ye,y1,y2⟩:=hLi _ ev hgl
  have hgn:(o.ns.map U8)[(0+by_.toNat) % p]?=some (U8 nm):=by rw [List.getElem?_map,hgn]; rfl
  (repeat show _∧_;first|refine yr ?_|refine yt ?_|refine yf ?_|refine ya e1 ?_|refine yb e1 ?_|refine yo ?_)
  rw [hqv]
  generalize (0+by_.toNat) % p=q at hq hqv hgl hgn y1 ⊢
  clear hqv hgl
  refine ⟨some [2,4],[1001,1000,1001,1002,1003,1004,1005,1006,1009,1010,1011,1012,1013,1014,1015,3,7,16,3,8,16,1018,2016,2017,0,2008,1018,2017,0,2007,2008,1018,2017,0],[(0,true),(1,true),(2,true),(3,true),(4,true),(5,true),(6,true),(7,false),(8,false),(9,true),(10,true),(11,true),(12,true),(13,true),(14,true),(15,true),(16,false),(17,false),(18,true)],[19,20,21],by (show planAny tds _ _ _ _=true; decide +kernel),?_⟩
  (repeat show _∧_;first|refine yr ?_|refine yt ?_|refine yf ?_|refine yo ?_)
  refine And.intro ⟨by omega,show ((q:Nat):Int)<((p:Nat):Int) by omega⟩ ?_
  refine loadR (i:=0) rfl hSi (j:=q*1) (map_get? (by rw [Nat.mul_one]; exact hgn)) ?_
  (repeat show _∧_;first|refine yr ?_|refine yt ?_|refine yf ?_|refine yo ?_)
  refine And.intro ⟨by omega,show ((q:Nat):Int)<((p:Nat):Int) by omega⟩ ?_
  refine ⟨jvS ev ye,⟨.past (i:=0) rfl (by exact y1),rfl⟩,?_⟩
  (repeat show _∧_;first|refine yr ?_|refine yt ?_|refine yf ?_|refine yo ?_)
  refine And.intro (And.intro ?_ ?_) ?_
  ·(repeat show _∧_;first|refine yr ?_|refine yt ?_|refine yf ?_|refine yo ?_)
   intro e2 he2
   refine And.intro rfl ?_
   refine And.intro (show 0+5≤5 by decide) ?_
   (repeat show _∧_;first|refine yr ?_|refine yt ?_|refine yf ?_|refine yo ?_)
   intro c2 hc2
   (repeat show _∧_;first|refine yr ?_|refine yt ?_|refine yf ?_|refine yo ?_)
   refine ⟨(1,flat (jvS ev ye),c2,e2),[0,1,2,3,4,8,6],⟨⟨rfl,rfl,rfl⟩,?_⟩,⟨(show 1≤p by omega),hc2,he2,(show RowJ W ms d _ (rotT by_.toNat o.l (0+1)) by rw [hst]; exact RowJ.nil.snoc y2)⟩,by dsimp only; omega⟩
   dsimp only
   rw [hsn]
   (repeat first|exact trivial|refine ent1 ?_)
   refine And.intro (fun j hj=>eqJ_cs (jv_raw ev ye) (newJ_cs (m:=1) (sz:=4) rfl fun j hj=>updJ_new hj) j) ?_
   (repeat first|exact trivial|refine ent1 ?_)
   exact ⟨fun j hj=>eqJ_cs (nmL_raw _) (fun j hj=>nmL_newrow j hj) j,by (repeat first|exact trivial|refine ent1 ?_)⟩
  ·refine And.intro rfl ?_
   refine And.intro (show 0+5≤5 by decide) ?_
   (repeat show _∧_;first|refine yr ?_|refine yt ?_|refine yf ?_|refine yo ?_)
   intro e2 he2
   (repeat show _∧_;first|refine yr ?_|refine yt ?_|refine yf ?_|refine yo ?_)
   intro c2 hc2
   (repeat show _∧_;first|refine yr ?_|refine yt ?_|refine yf ?_|refine yo ?_)
   refine ⟨(1,flat (jvS ev ye),c2,e2),[0,1,2,3,4,8,7],⟨⟨rfl,rfl,rfl⟩,?_⟩,⟨(show 1≤p by omega),hc2,he2,(show RowJ W ms d _ (rotT by_.toNat o.l (0+1)) by rw [hst]; exact RowJ.nil.snoc y2)⟩,by dsimp only; omega⟩
   dsimp only
   rw [hsn]
   (repeat first|exact trivial|refine ent1 ?_)
   refine And.intro (fun j hj=>eqJ_cs (jv_raw ev ye) (newJ_cs (m:=1) (sz:=4) rfl fun j hj=>updJ_new hj) j) ?_
   (repeat first|exact trivial|refine ent1 ?_)
   exact ⟨fun j hj=>eqJ_cs (nmL_raw _) (fun j hj=>nmL_newrow j hj) j,by (repeat first|exact trivial|refine ent1 ?_)⟩
  ·refine And.intro rfl ?_
   refine And.intro (show 0+5≤5 by decide) ?_
   (repeat show _∧_;first|refine yr ?_|refine yt ?_|refine yf ?_|refine yo ?_)
   intro e2 he2
   (repeat show _∧_;first|refine yr ?_|refine yt ?_|refine yf ?_|refine yo ?_)
   intro c2 hc2
   (repeat show _∧_;first|refine yr ?_|refine yt ?_|refine yf ?_|refine yo ?_)
   refine ⟨(1,flat (jvS ev ye),c2,e2),[0,1,2,3,4,8,7],⟨⟨rfl,rfl,rfl⟩,?_⟩,⟨(show 1≤p by omega),hc2,he2,(show RowJ W ms d _ (rotT by_.toNat o.l (0+1)) by rw [hst]; exact RowJ.nil.snoc y2)⟩,by dsimp only; omega⟩
   dsimp only
   rw [hsn]
   (repeat first|exact trivial|refine ent1 ?_)
   refine And.intro (fun j hj=>eqJ_cs (jv_raw ev ye) (newJ_cs (m:=1) (sz:=4) rfl fun j hj=>updJ_new hj) j) ?_
   (repeat first|exact trivial|refine ent1 ?_)
   exact ⟨fun j hj=>eqJ_cs (nmL_raw _) (fun j hj=>nmL_newrow j hj) j,by (repeat first|exact trivial|refine ent1 ?_)⟩
 ·dsimp only
  obtain ⟨hi,hc,he,hR⟩:=hy
  by_cases hlt:i+1<p
  rotate_left
  ·have e1:decide (((i+1:Nat):Int)<((p:Nat):Int))=false:=decide_eq_false (by omega)
   obtain rfl:p=i+1:=by omega
   (repeat show _∧_;first|refine yr ?_|refine yt ?_|refine yf ?_|refine ya e1 ?_|refine yb e1 ?_|refine yo ?_)
   refine ⟨.a (.agg (vo1 2 (i+1) c 3 (i+1) e)),_,⟨[0,1,5,6],⟨rfl,rfl,rfl⟩,?_⟩,c,e,cs,hc,he,hR,rfl,rfl⟩
   (repeat first|exact trivial|refine ent1 ?_)
   refine And.intro (fun j hj=>eqJ_cs hR.raw (fun _ _=>rfl) j) ?_
   (repeat first|exact trivial|refine ent1 ?_)
   exact ⟨fun j hj=>eqJ_cs (nmL_raw _) (fun _ _=>rfl) j,by (repeat first|exact trivial|refine ent1 ?_)⟩
  have e1:decide (((i+1:Nat):Int)<((p:Nat):Int))=true:=decide_eq_true (by omega)
  have hlo:0<o.l.length:=by omega
  have hno:0<o.ns.length:=by omega
  have hst:=rotT_step (b:=by_.toNat) (i:=i+1) hlo
  have hsn:=rotT_step (b:=by_.toNat) (i:=i+1) hno
  have hq:(i+1+by_.toNat) % p<p:=Nat.mod_lt _ h0
  have hqv:(((i+1:Nat):Int)+((by_.toNat:Nat):Int)) % ((p:Nat):Int)=(((i+1+by_.toNat) % p:Nat):Int):=by rw [← Int.natCast_add,← Int.natCast_emod]
  have hgl:o.l[(i+1+by_.toNat) % p]?=some (o.l[(i+1+by_.toNat) % o.l.length]'(Nat.mod_lt _ hlo)):=by rw [List.getElem?_eq_getElem (by omega)]; simp only [hn]
  have hgn:o.ns[(i+1+by_.toNat) % p]?=some (o.ns[(i+1+by_.toNat) % o.ns.length]'(Nat.mod_lt _ hno)):=by rw [List.getElem?_eq_getElem (by omega)]; simp only [hns]
  generalize (o.l[(i+1+by_.toNat) % o.l.length]'(Nat.mod_lt _ hlo))=ev at hst hgl
  generalize (o.ns[(i+1+by_.toNat) % o.ns.length]'(Nat.mod_lt _ hno))=nm at hsn hgn
  obtain ⟨ye,y1,y2⟩:=hLi _ ev hgl
  have hgn:(o.ns.map U8)[(i+1+by_.toNat) % p]?=some (U8 nm):=by rw [List.getElem?_map,hgn]; rfl
  (repeat show _∧_;first|refine yr ?_|refine yt ?_|refine yf ?_|refine ya e1 ?_|refine yb e1 ?_|refine yo ?_)
  rw [hqv]
  generalize (i+1+by_.toNat) % p=q at hq hqv hgl hgn y1 ⊢
  clear hqv hgl
  refine ⟨some [2,4],[1001,1000,1001,1002,1003,1004,1005,1006,1009,1010,1011,1012,1013,1014,1015,3,7,16,3,8,16,1018,2016,2017,0,2008,1018,2017,0,2007,2008,1018,2017,0],[(0,true),(1,true),(2,true),(3,true),(4,true),(5,true),(6,true),(7,false),(8,false),(9,true),(10,true),(11,true),(12,true),(13,true),(14,true),(15,true),(16,false),(17,false),(18,true)],[19,20,21],by (show planAny tds _ _ _ _=true; decide +kernel),?_⟩
  (repeat show _∧_;first|refine yr ?_|refine yt ?_|refine yf ?_|refine yo ?_)
  refine And.intro ⟨by omega,show ((q:Nat):Int)<((p:Nat):Int) by omega⟩ ?_
  refine loadR (i:=0) rfl hSi (j:=q*1) (map_get? (by rw [Nat.mul_one]; exact hgn)) ?_
  (repeat show _∧_;first|refine yr ?_|refine yt ?_|refine yf ?_|refine yo ?_)
  refine And.intro ⟨by omega,show ((q:Nat):Int)<((p:Nat):Int) by omega⟩ ?_
  refine ⟨jvS ev ye,⟨.past (i:=0) rfl (by exact y1),rfl⟩,?_⟩
  (repeat show _∧_;first|refine yr ?_|refine yt ?_|refine yf ?_|refine yo ?_)
  refine And.intro (And.intro ?_ ?_) ?_
  ·refine And.intro (show 0+scale 1 (0+1)≤1 by decide) ?_
   refine And.intro ⟨he,by rw [sc1]; omega,show (i+1+1)*16≤140737488355328 by omega⟩ ?_
   intro e2 he2
   refine And.intro rfl ?_
   refine And.intro (show 0+5≤5 by decide) ?_
   refine And.intro (show 0+scale 1 (4+1)≤5 by decide) ?_
   refine And.intro ⟨hc,by rw [sc5]; omega,show (i+1+1)*80≤140737488355328 by omega⟩ ?_
   intro c2 hc2
   (repeat show _∧_;first|refine yr ?_|refine yt ?_|refine yf ?_|refine yo ?_)
   refine ⟨(i+1+1,cs++flat (jvS ev ye),c2,e2),[0,1,2,3,4,10,8],⟨⟨rfl,rfl,rfl⟩,?_⟩,⟨(show i+1+1≤p by omega),hc2,he2,(show RowJ W ms d _ (rotT by_.toNat o.l (i+1+1)) by rw [hst]; exact hR.snoc y2)⟩,by dsimp only; omega⟩
   dsimp only
   rw [hsn]
   (repeat first|exact trivial|refine ent1 ?_)
   refine And.intro (fun j hj=>eqJ_cs (fun y hy=>(List.mem_append.1 hy).elim (hR.raw y) (jv_raw ev ye y)) (appJ_cs (m:=1) (sz:=4) (by rw [hR.len,rotT_len hlo]) (fun _ _=>rfl) rfl fun j hj=>updJ_new hj) j) ?_
   (repeat first|exact trivial|refine ent1 ?_)
   exact ⟨fun j hj=>eqJ_cs (nmL_raw _) (fun j hj=>nmL_approw (rotT_len hno _) j hj) j,by (repeat first|exact trivial|refine ent1 ?_)⟩
  ·refine And.intro rfl ?_
   refine And.intro (show 0+5≤5 by decide) ?_
   refine And.intro (show 0+scale 1 (0+1)≤1 by decide) ?_
   refine And.intro ⟨he,by rw [sc1]; omega,show (i+1+1)*16≤140737488355328 by omega⟩ ?_
   intro e2 he2
   refine And.intro (show 0+scale 1 (4+1)≤5 by decide) ?_
   refine And.intro ⟨hc,by rw [sc5]; omega,show (i+1+1)*80≤140737488355328 by omega⟩ ?_
   intro c2 hc2
   (repeat show _∧_;first|refine yr ?_|refine yt ?_|refine yf ?_|refine yo ?_)
   refine ⟨(i+1+1,cs++flat (jvS ev ye),c2,e2),[0,1,2,3,4,10,9],⟨⟨rfl,rfl,rfl⟩,?_⟩,⟨(show i+1+1≤p by omega),hc2,he2,(show RowJ W ms d _ (rotT by_.toNat o.l (i+1+1)) by rw [hst]; exact hR.snoc y2)⟩,by dsimp only; omega⟩
   dsimp only
   rw [hsn]
   (repeat first|exact trivial|refine ent1 ?_)
   refine And.intro (fun j hj=>eqJ_cs (fun y hy=>(List.mem_append.1 hy).elim (hR.raw y) (jv_raw ev ye y)) (appJ_cs (m:=1) (sz:=4) (by rw [hR.len,rotT_len hlo]) (fun _ _=>rfl) rfl fun j hj=>updJ_new hj) j) ?_
   (repeat first|exact trivial|refine ent1 ?_)
   exact ⟨fun j hj=>eqJ_cs (nmL_raw _) (fun j hj=>nmL_approw (rotT_len hno _) j hj) j,by (repeat first|exact trivial|refine ent1 ?_)⟩
  ·refine And.intro rfl ?_
   refine And.intro (show 0+5≤5 by decide) ?_
   refine And.intro (show 0+scale 1 (0+1)≤1 by decide) ?_
   refine And.intro ⟨he,by rw [sc1]; omega,show (i+1+1)*16≤140737488355328 by omega⟩ ?_
   intro e2 he2
   refine And.intro (show 0+scale 1 (4+1)≤5 by decide) ?_
   refine And.intro ⟨hc,by rw [sc5]; omega,show (i+1+1)*80≤140737488355328 by omega⟩ ?_
   intro c2 hc2
   (repeat show _∧_;first|refine yr ?_|refine yt ?_|refine yf ?_|refine yo ?_)
   refine ⟨(i+1+1,cs++flat (jvS ev ye),c2,e2),[0,1,2,3,4,10,9],⟨⟨rfl,rfl,rfl⟩,?_⟩,⟨(show i+1+1≤p by omega),hc2,he2,(show RowJ W ms d _ (rotT by_.toNat o.l (i+1+1)) by rw [hst]; exact hR.snoc y2)⟩,by dsimp only; omega⟩
   dsimp only
   rw [hsn]
   (repeat first|exact trivial|refine ent1 ?_)
   refine And.intro (fun j hj=>eqJ_cs (fun y hy=>(List.mem_append.1 hy).elim (hR.raw y) (jv_raw ev ye y)) (appJ_cs (m:=1) (sz:=4) (by rw [hR.len,rotT_len hlo]) (fun _ _=>rfl) rfl fun j hj=>updJ_new hj) j) ?_
   (repeat first|exact trivial|refine ent1 ?_)
   exact ⟨fun j hj=>eqJ_cs (nmL_raw _) (fun j hj=>nmL_approw (rotT_len hno _) j hj) j,by (repeat first|exact trivial|refine ent1 ?_)⟩
end Sx
end
end Go.Proofs.YtnehmcpkeamghaaDoor
