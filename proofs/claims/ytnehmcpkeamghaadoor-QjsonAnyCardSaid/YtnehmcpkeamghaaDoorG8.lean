/-
  Texts of this claim, part 8: QjG, QjH, QjI, VsB, VsC, EoJ, EoK, EoL, QjJ, QjK, QjO, QjP, VwC, EoM, EoN, EoP, EoQ, EoR, EoS, EpD, QjV, VrA, EoT, EoU, EoV, EoW, EoX, EoY, Sxw, Sxw2, Sxv, Sxs, EoZ, EpA, QjW, QjT, QjU, QjX, JtL. No condition of its own.
-/
import Derived.OpenShut
import Derived.ChangeArms
import Derived.Lib.LaidU8
import Derived.MakeChecks
import Derived.Test.YtnehmcpkeamghaaDoorG7
namespace Go.Proofs.YtnehmcpkeamghaaDoor
set_option linter.unusedVariables false
section
namespace Sx
open Go.RowKit Sha Vi Js Ev Qj

theorem jv_raw (v:JT) (x:JC):∀ y∈flat (jvS v x),y.raw=y:=fun y hy=>by
 rw [flat_jvS] at hy
 simp only [List.mem_cons,List.not_mem_nil,or_false] at hy
 rcases hy with rfl|rfl|rfl|rfl|rfl <;> rfl
theorem eqJ_app {q:List Nat} {cs D:List SC} (hr:∀ x∈cs,x.raw=x) {f:Nat→SC} (hf:∀ j,j<(cs++D).length→f j=nthC (cs++D) j) (hD:∀ i,i<D.length→eqC q (nthC D i) (nthC D i) True) (j:Nat):eqC q (f j) (nthC (cs++D) j) True:=by
 rcases Nat.lt_or_ge j (cs++D).length with hj|hj
 ·rw [hf j hj]
  rcases Nat.lt_or_ge j cs.length with h|h
  ·rw [nthJ_l h]; exact eqJ_raw (hr _ (nthJ_mem h))
  ·rw [nthJ_r h]; exact hD _ (by rw [List.length_append] at hj; omega)
 ·rw [nthJ_out hj]; trivial
set_option maxRecDepth 20000 in
set_option maxHeartbeats 8000000 in
theorem fn_qadd0 (v:JT) (x:JC) (s:Bs):Fn Tryd.prog tds 31 [vo0] [.c (.p 0 0 0),.c (.str (U8 s)),.agg (jvS v x)] (fun _=>True)
  (fun y hs=>∃ c e,1≤c∧1≤e∧y=.tup []∧hs=[vo1 1 1 c 2 1 e,[.row (scale c (4+1)) (nthC (flat (jvS v x)))],[.row (scale e (0+1)) (nthC (nmJ [s]))]]):=by
 refine fn_of_body tds_ok follows_ Tryd.func31 rfl (t:=.a (.c (.p 0 0 0))::.a (.c (.str (U8 s)))::.a (.agg (jvS v x))::anys (Tryd.f31.ntmps-3)) rfl (fun w r0 hr0 _=>?_)
 obtain ⟨x0,rfl⟩:∃ x0,r0=[x0]:=by
  match r0,hr0 with
  | [y0],_=>exact ⟨_,rfl⟩
 (repeat show _∧_;first|refine yr ?_|refine yt ?_|refine yf ?_|refine yo ?_)
 refine ⟨some [0,1],[1001,1000,1001,1002,1003,1004,1005,1006,1009,1010,1011,1012,1013,3,7,14,3,8,14,2014,2015,0,2008,2015,0,2007,2008,2015,0],[(0,true),(1,true),(2,true),(3,true),(4,true),(5,true),(6,true),(7,false),(8,false),(9,true),(10,true),(11,true),(12,true),(13,true),(14,false),(15,false)],[16,17,18,19,20,21],by kernel_rfl,?_⟩
 (repeat show _∧_;first|refine yr ?_|refine yt ?_|refine yf ?_|refine yo ?_)
 refine And.intro (And.intro ?_ ?_) ?_
 ·(repeat show _∧_;first|refine yr ?_|refine yt ?_|refine yf ?_|refine yo ?_)
  intro e2 he2
  refine And.intro rfl ?_
  refine And.intro (show 0+5≤5 by decide) ?_
  (repeat show _∧_;first|refine yr ?_|refine yt ?_|refine yf ?_|refine yo ?_)
  intro c2 hc2
  (repeat show _∧_;first|refine yr ?_|refine yt ?_|refine yf ?_|refine yo ?_)
  refine ⟨.tup [],_,⟨[0,5,3],⟨rfl,rfl,rfl⟩,?_⟩,c2,e2,hc2,he2,rfl,rfl⟩
  (repeat first|exact trivial|refine ent1 ?_)
  refine And.intro (fun j hj=>eqJ_cs (jv_raw v x) (newJ_cs (m:=1) (sz:=4) rfl fun j hj=>updJ_new hj) j) ?_
  (repeat first|exact trivial|refine ent1 ?_)
  exact ⟨fun j hj=>eqJ_cs (nmL_raw _) (fun j hj=>nmL_newrow j hj) j,by (repeat first|exact trivial|refine ent1 ?_)⟩
 ·refine And.intro rfl ?_
  refine And.intro (show 0+5≤5 by decide) ?_
  (repeat show _∧_;first|refine yr ?_|refine yt ?_|refine yf ?_|refine yo ?_)
  intro e2 he2
  (repeat show _∧_;first|refine yr ?_|refine yt ?_|refine yf ?_|refine yo ?_)
  intro c2 hc2
  (repeat show _∧_;first|refine yr ?_|refine yt ?_|refine yf ?_|refine yo ?_)
  refine ⟨.tup [],_,⟨[0,5,4],⟨rfl,rfl,rfl⟩,?_⟩,c2,e2,hc2,he2,rfl,rfl⟩
  (repeat first|exact trivial|refine ent1 ?_)
  refine And.intro (fun j hj=>eqJ_cs (jv_raw v x) (newJ_cs (m:=1) (sz:=4) rfl fun j hj=>updJ_new hj) j) ?_
  (repeat first|exact trivial|refine ent1 ?_)
  exact ⟨fun j hj=>eqJ_cs (nmL_raw _) (fun j hj=>nmL_newrow j hj) j,by (repeat first|exact trivial|refine ent1 ?_)⟩
 ·refine And.intro rfl ?_
  refine And.intro (show 0+5≤5 by decide) ?_
  (repeat show _∧_;first|refine yr ?_|refine yt ?_|refine yf ?_|refine yo ?_)
  intro e2 he2
  (repeat show _∧_;first|refine yr ?_|refine yt ?_|refine yf ?_|refine yo ?_)
  intro c2 hc2
  (repeat show _∧_;first|refine yr ?_|refine yt ?_|refine yf ?_|refine yo ?_)
  refine ⟨.tup [],_,⟨[0,5,4],⟨rfl,rfl,rfl⟩,?_⟩,c2,e2,hc2,he2,rfl,rfl⟩
  (repeat first|exact trivial|refine ent1 ?_)
  refine And.intro (fun j hj=>eqJ_cs (jv_raw v x) (newJ_cs (m:=1) (sz:=4) rfl fun j hj=>updJ_new hj) j) ?_
  (repeat first|exact trivial|refine ent1 ?_)
  exact ⟨fun j hj=>eqJ_cs (nmL_raw _) (fun j hj=>nmL_newrow j hj) j,by (repeat first|exact trivial|refine ent1 ?_)⟩
set_option maxRecDepth 20000 in
set_option maxHeartbeats 8000000 in
theorem fn_qadd1 (cs:List SC) (ns:List Bs) (m c e:Nat) (hr:∀ x∈cs,x.raw=x) (hl:cs.length=m*5) (hn:ns.length=m) (hc:m≤c) (he:m≤e) (hm:m≤1000000) (v:JT) (x:JC) (s:Bs):Fn Tryd.prog tds 31 [vo1 1 m c 2 m e,[.row (scale c (4+1)) (nthC cs)],[.row (scale e (0+1)) (nthC (nmJ ns))]] [.c (.p 0 0 0),.c (.str (U8 s)),.agg (jvS v x)] (fun _=>True)
  (fun y hs=>∃ c' e',m+1≤c'∧m+1≤e'∧y=.tup []∧hs=[vo1 3 (m+1) c' 4 (m+1) e',[],[],[.row (scale c' (4+1)) (nthC (cs++(flat (jvS v x))))],[.row (scale e' (0+1)) (nthC (nmJ (ns++[s])))]]):=by
 refine fn_of_body tds_ok follows_ Tryd.func31 rfl (t:=.a (.c (.p 0 0 0))::.a (.c (.str (U8 s)))::.a (.agg (jvS v x))::anys (Tryd.f31.ntmps-3)) rfl (fun w r0 hr0 _=>?_)
 obtain ⟨x0,x1,x2,rfl⟩:∃ x0 x1 x2,r0=[x0,x1,x2]:=by
  match r0,hr0 with
  | [y0,y1,y2],_=>exact ⟨_,_,_,rfl⟩
 (repeat show _∧_;first|refine yr ?_|refine yt ?_|refine yf ?_|refine yo ?_)
 refine ⟨some [0,3],[1001,1000,1001,1002,1003,1004,1005,1006,1009,1010,1011,1012,1013,3,7,14,3,8,14,2014,2015,0,2008,2015,0,2007,2008,2015,0],[(0,true),(1,true),(2,true),(3,true),(4,true),(5,true),(6,true),(7,false),(8,false),(9,true),(10,true),(11,true),(12,true),(13,true),(14,false),(15,false)],[16,17,18,19,20,21],by kernel_rfl,?_⟩
 (repeat show _∧_;first|refine yr ?_|refine yt ?_|refine yf ?_|refine yo ?_)
 refine And.intro (And.intro ?_ ?_) ?_
 ·refine And.intro (show 0+scale 1 (0+1)≤1 by decide) ?_
  refine And.intro ⟨he,by rw [sc1]; omega,show (m+1)*16≤140737488355328 by omega⟩ ?_
  intro e2 he2
  refine And.intro rfl ?_
  refine And.intro (show 0+5≤5 by decide) ?_
  refine And.intro (show 0+scale 1 (4+1)≤5 by decide) ?_
  refine And.intro ⟨hc,by rw [sc5]; omega,show (m+1)*80≤140737488355328 by omega⟩ ?_
  intro c2 hc2
  (repeat show _∧_;first|refine yr ?_|refine yt ?_|refine yf ?_|refine yo ?_)
  refine ⟨.tup [],_,⟨[0,1,2,7,5],⟨rfl,rfl,rfl⟩,?_⟩,c2,e2,hc2,he2,rfl,rfl⟩
  (repeat first|exact trivial|refine ent1 ?_)
  refine And.intro (fun j hj=>eqJ_cs (fun y hy=>(List.mem_append.1 hy).elim (hr y) ((jv_raw v x) y)) (appJ_cs (m:=1) (sz:=4) (by rw [hl]) (fun _ _=>rfl) rfl fun j hj=>updJ_new hj) j) ?_
  (repeat first|exact trivial|refine ent1 ?_)
  exact ⟨fun j hj=>eqJ_cs (nmL_raw _) (fun j hj=>nmL_approw hn j hj) j,by (repeat first|exact trivial|refine ent1 ?_)⟩
 ·refine And.intro rfl ?_
  refine And.intro (show 0+5≤5 by decide) ?_
  refine And.intro (show 0+scale 1 (0+1)≤1 by decide) ?_
  refine And.intro ⟨he,by rw [sc1]; omega,show (m+1)*16≤140737488355328 by omega⟩ ?_
  intro e2 he2
  refine And.intro (show 0+scale 1 (4+1)≤5 by decide) ?_
  refine And.intro ⟨hc,by rw [sc5]; omega,show (m+1)*80≤140737488355328 by omega⟩ ?_
  intro c2 hc2
  (repeat show _∧_;first|refine yr ?_|refine yt ?_|refine yf ?_|refine yo ?_)
  refine ⟨.tup [],_,⟨[0,1,2,7,6],⟨rfl,rfl,rfl⟩,?_⟩,c2,e2,hc2,he2,rfl,rfl⟩
  (repeat first|exact trivial|refine ent1 ?_)
  refine And.intro (fun j hj=>eqJ_cs (fun y hy=>(List.mem_append.1 hy).elim (hr y) ((jv_raw v x) y)) (appJ_cs (m:=1) (sz:=4) (by rw [hl]) (fun _ _=>rfl) rfl fun j hj=>updJ_new hj) j) ?_
  (repeat first|exact trivial|refine ent1 ?_)
  exact ⟨fun j hj=>eqJ_cs (nmL_raw _) (fun j hj=>nmL_approw hn j hj) j,by (repeat first|exact trivial|refine ent1 ?_)⟩
 ·refine And.intro rfl ?_
  refine And.intro (show 0+5≤5 by decide) ?_
  refine And.intro (show 0+scale 1 (0+1)≤1 by decide) ?_
  refine And.intro ⟨he,by rw [sc1]; omega,show (m+1)*16≤140737488355328 by omega⟩ ?_
  intro e2 he2
  refine And.intro (show 0+scale 1 (4+1)≤5 by decide) ?_
  refine And.intro ⟨hc,by rw [sc5]; omega,show (m+1)*80≤140737488355328 by omega⟩ ?_
  intro c2 hc2
  (repeat show _∧_;first|refine yr ?_|refine yt ?_|refine yf ?_|refine yo ?_)
  refine ⟨.tup [],_,⟨[0,1,2,7,6],⟨rfl,rfl,rfl⟩,?_⟩,c2,e2,hc2,he2,rfl,rfl⟩
  (repeat first|exact trivial|refine ent1 ?_)
  refine And.intro (fun j hj=>eqJ_cs (fun y hy=>(List.mem_append.1 hy).elim (hr y) ((jv_raw v x) y)) (appJ_cs (m:=1) (sz:=4) (by rw [hl]) (fun _ _=>rfl) rfl fun j hj=>updJ_new hj) j) ?_
  (repeat first|exact trivial|refine ent1 ?_)
  exact ⟨fun j hj=>eqJ_cs (nmL_raw _) (fun j hj=>nmL_approw hn j hj) j,by (repeat first|exact trivial|refine ent1 ?_)⟩
set_option maxRecDepth 20000 in
set_option maxHeartbeats 8000000 in
theorem fn_qadd2 (cs:List SC) (ns:List Bs) (m c e:Nat) (hr:∀ x∈cs,x.raw=x) (hl:cs.length=m*5) (hn:ns.length=m) (hc:m≤c) (he:m≤e) (hm:m≤1000000) (p pc r rc:Nat) (X Y:Nat→SC) (a1 a2:Nat) (hX:∀ q j,eqC q (X j) (X j) True) (hY:∀ q j,eqC q (Y j) (Y j) True) (s:Bs):Fn Tryd.prog tds 31 [vo1 1 m c 2 m e,[.row (scale c (4+1)) (nthC cs)],[.row (scale e (0+1)) (nthC (nmJ ns))],[.row a1 X],[.row a2 Y]] [.c (.p 0 0 0),.c (.str (U8 s)),.agg ([.one (.w8 6#8),.one (.w64 0#64),.one (.str []),.one (.sl 3 0 0 p pc),.one (.sl 4 0 0 r rc)])] (fun _=>True)
  (fun y hs=>∃ c' e',m+1≤c'∧m+1≤e'∧y=.tup []∧hs=[vo1 5 (m+1) c' 6 (m+1) e',[],[],[.row a1 X],[.row a2 Y],[.row (scale c' (4+1)) (nthC (cs++[.w8 6#8,.w64 0#64,.str [],.sl 3 0 0 p pc,.sl 4 0 0 r rc]))],[.row (scale e' (0+1)) (nthC (nmJ (ns++[s])))]]):=by
 refine fn_of_body tds_ok follows_ Tryd.func31 rfl (t:=.a (.c (.p 0 0 0))::.a (.c (.str (U8 s)))::.a (.agg ([.one (.w8 6#8),.one (.w64 0#64),.one (.str []),.one (.sl 3 0 0 p pc),.one (.sl 4 0 0 r rc)]))::anys (Tryd.f31.ntmps-3)) rfl (fun w r0 hr0 _=>?_)
 obtain ⟨x0,x1,x2,x3,x4,rfl⟩:∃ x0 x1 x2 x3 x4,r0=[x0,x1,x2,x3,x4]:=by
  match r0,hr0 with
  | [y0,y1,y2,y3,y4],_=>exact ⟨_,_,_,_,_,rfl⟩
 (repeat show _∧_;first|refine yr ?_|refine yt ?_|refine yf ?_|refine yo ?_)
 refine ⟨some [0,5],[1001,1000,1001,1002,1003,1004,1005,1006,1009,1010,1011,1012,1013,3,7,14,3,8,14,2014,2015,0,2008,2015,0,2007,2008,2015,0],[(0,true),(1,true),(2,true),(3,true),(4,true),(5,true),(6,true),(7,false),(8,false),(9,true),(10,true),(11,true),(12,true),(13,true),(14,false),(15,false)],[16,17,18,19,20,21],by kernel_rfl,?_⟩
 (repeat show _∧_;first|refine yr ?_|refine yt ?_|refine yf ?_|refine yo ?_)
 refine And.intro (And.intro ?_ ?_) ?_
 ·refine And.intro (show 0+scale 1 (0+1)≤1 by decide) ?_
  refine And.intro ⟨he,by rw [sc1]; omega,show (m+1)*16≤140737488355328 by omega⟩ ?_
  intro e2 he2
  refine And.intro rfl ?_
  refine And.intro (show 0+5≤5 by decide) ?_
  refine And.intro (show 0+scale 1 (4+1)≤5 by decide) ?_
  refine And.intro ⟨hc,by rw [sc5]; omega,show (m+1)*80≤140737488355328 by omega⟩ ?_
  intro c2 hc2
  (repeat show _∧_;first|refine yr ?_|refine yt ?_|refine yf ?_|refine yo ?_)
  refine ⟨.tup [],_,⟨[0,1,2,3,4,9,7],⟨rfl,rfl,rfl⟩,?_⟩,c2,e2,hc2,he2,rfl,rfl⟩
  (repeat first|exact trivial|refine ent1 ?_)
  refine And.intro (fun j hj=>hX _ j) ?_
  (repeat first|exact trivial|refine ent1 ?_)
  refine And.intro (fun j hj=>hY _ j) ?_
  (repeat first|exact trivial|refine ent1 ?_)
  refine And.intro (fun j hj=>eqJ_app hr (appJ_cs (new:=[.w8 6#8,.w64 0#64,.str [],.sl 3 0 0 p pc,.sl 4 0 0 r rc]) (m:=1) (sz:=4) (by rw [hl]) (fun _ _=>rfl) rfl fun j hj=>updJ_new hj) (fun i hi=>?_) j) ?_
  ·match i,hi with
   | 0,_=>(repeat first|exact trivial|refine ent1 ?_)
   | 1,_=>(repeat first|exact trivial|refine ent1 ?_)
   | 2,_=>(repeat first|exact trivial|refine ent1 ?_)
   | 3,_=>(repeat first|exact trivial|refine ent1 ?_)
   | 4,_=>(repeat first|exact trivial|refine ent1 ?_)
  (repeat first|exact trivial|refine ent1 ?_)
  exact ⟨fun j hj=>eqJ_cs (nmL_raw _) (fun j hj=>nmL_approw hn j hj) j,by (repeat first|exact trivial|refine ent1 ?_)⟩
 ·refine And.intro rfl ?_
  refine And.intro (show 0+5≤5 by decide) ?_
  refine And.intro (show 0+scale 1 (0+1)≤1 by decide) ?_
  refine And.intro ⟨he,by rw [sc1]; omega,show (m+1)*16≤140737488355328 by omega⟩ ?_
  intro e2 he2
  refine And.intro (show 0+scale 1 (4+1)≤5 by decide) ?_
  refine And.intro ⟨hc,by rw [sc5]; omega,show (m+1)*80≤140737488355328 by omega⟩ ?_
  intro c2 hc2
  (repeat show _∧_;first|refine yr ?_|refine yt ?_|refine yf ?_|refine yo ?_)
  refine ⟨.tup [],_,⟨[0,1,2,3,4,9,8],⟨rfl,rfl,rfl⟩,?_⟩,c2,e2,hc2,he2,rfl,rfl⟩
  (repeat first|exact trivial|refine ent1 ?_)
  refine And.intro (fun j hj=>hX _ j) ?_
  (repeat first|exact trivial|refine ent1 ?_)
  refine And.intro (fun j hj=>hY _ j) ?_
  (repeat first|exact trivial|refine ent1 ?_)
  refine And.intro (fun j hj=>eqJ_app hr (appJ_cs (new:=[.w8 6#8,.w64 0#64,.str [],.sl 3 0 0 p pc,.sl 4 0 0 r rc]) (m:=1) (sz:=4) (by rw [hl]) (fun _ _=>rfl) rfl fun j hj=>updJ_new hj) (fun i hi=>?_) j) ?_
  ·match i,hi with
   | 0,_=>(repeat first|exact trivial|refine ent1 ?_)
   | 1,_=>(repeat first|exact trivial|refine ent1 ?_)
   | 2,_=>(repeat first|exact trivial|refine ent1 ?_)
   | 3,_=>(repeat first|exact trivial|refine ent1 ?_)
   | 4,_=>(repeat first|exact trivial|refine ent1 ?_)
  (repeat first|exact trivial|refine ent1 ?_)
  exact ⟨fun j hj=>eqJ_cs (nmL_raw _) (fun j hj=>nmL_approw hn j hj) j,by (repeat first|exact trivial|refine ent1 ?_)⟩
 ·refine And.intro rfl ?_
  refine And.intro (show 0+5≤5 by decide) ?_
  refine And.intro (show 0+scale 1 (0+1)≤1 by decide) ?_
  refine And.intro ⟨he,by rw [sc1]; omega,show (m+1)*16≤140737488355328 by omega⟩ ?_
  intro e2 he2
  refine And.intro (show 0+scale 1 (4+1)≤5 by decide) ?_
  refine And.intro ⟨hc,by rw [sc5]; omega,show (m+1)*80≤140737488355328 by omega⟩ ?_
  intro c2 hc2
  (repeat show _∧_;first|refine yr ?_|refine yt ?_|refine yf ?_|refine yo ?_)
  refine ⟨.tup [],_,⟨[0,1,2,3,4,9,8],⟨rfl,rfl,rfl⟩,?_⟩,c2,e2,hc2,he2,rfl,rfl⟩
  (repeat first|exact trivial|refine ent1 ?_)
  refine And.intro (fun j hj=>hX _ j) ?_
  (repeat first|exact trivial|refine ent1 ?_)
  refine And.intro (fun j hj=>hY _ j) ?_
  (repeat first|exact trivial|refine ent1 ?_)
  refine And.intro (fun j hj=>eqJ_app hr (appJ_cs (new:=[.w8 6#8,.w64 0#64,.str [],.sl 3 0 0 p pc,.sl 4 0 0 r rc]) (m:=1) (sz:=4) (by rw [hl]) (fun _ _=>rfl) rfl fun j hj=>updJ_new hj) (fun i hi=>?_) j) ?_
  ·match i,hi with
   | 0,_=>(repeat first|exact trivial|refine ent1 ?_)
   | 1,_=>(repeat first|exact trivial|refine ent1 ?_)
   | 2,_=>(repeat first|exact trivial|refine ent1 ?_)
   | 3,_=>(repeat first|exact trivial|refine ent1 ?_)
   | 4,_=>(repeat first|exact trivial|refine ent1 ?_)
  (repeat first|exact trivial|refine ent1 ?_)
  exact ⟨fun j hj=>eqJ_cs (nmL_raw _) (fun j hj=>nmL_approw hn j hj) j,by (repeat first|exact trivial|refine ent1 ?_)⟩
set_option maxRecDepth 20000 in
set_option maxHeartbeats 8000000 in
theorem fn_qadd3 (cs:List SC) (ns:List Bs) (m c e:Nat) (hr:∀ x∈cs,x.raw=x) (hl:cs.length=m*5) (hn:ns.length=m) (hc:m≤c) (he:m≤e) (hm:m≤1000000) (p pc:Nat) (X:Nat→SC) (a1:Nat) (hX:∀ q j,eqC q (X j) (X j) True) (s:Bs):Fn Tryd.prog tds 31 [vo1 1 m c 2 m e,[.row (scale c (4+1)) (nthC cs)],[.row (scale e (0+1)) (nthC (nmJ ns))],[.row a1 X]] [.c (.p 0 0 0),.c (.str (U8 s)),.agg ([.one (.w8 5#8),.one (.w64 0#64),.one (.str []),.one (.sl 3 0 0 p pc),.one (.slc none 0 0)])] (fun _=>True)
  (fun y hs=>∃ c' e',m+1≤c'∧m+1≤e'∧y=.tup []∧hs=[vo1 4 (m+1) c' 5 (m+1) e',[],[],[.row a1 X],[.row (scale c' (4+1)) (nthC (cs++[.w8 5#8,.w64 0#64,.str [],.sl 3 0 0 p pc,.slc none 0 0]))],[.row (scale e' (0+1)) (nthC (nmJ (ns++[s])))]]):=by
 refine fn_of_body tds_ok follows_ Tryd.func31 rfl (t:=.a (.c (.p 0 0 0))::.a (.c (.str (U8 s)))::.a (.agg ([.one (.w8 5#8),.one (.w64 0#64),.one (.str []),.one (.sl 3 0 0 p pc),.one (.slc none 0 0)]))::anys (Tryd.f31.ntmps-3)) rfl (fun w r0 hr0 _=>?_)
 obtain ⟨x0,x1,x2,x3,rfl⟩:∃ x0 x1 x2 x3,r0=[x0,x1,x2,x3]:=by
  match r0,hr0 with
  | [y0,y1,y2,y3],_=>exact ⟨_,_,_,_,rfl⟩
 (repeat show _∧_;first|refine yr ?_|refine yt ?_|refine yf ?_|refine yo ?_)
 refine ⟨some [0,4],[1001,1000,1001,1002,1003,1004,1005,1006,1009,1010,1011,1012,1013,3,7,14,3,8,14,2014,2015,0,2008,2015,0,2007,2008,2015,0],[(0,true),(1,true),(2,true),(3,true),(4,true),(5,true),(6,true),(7,false),(8,false),(9,true),(10,true),(11,true),(12,true),(13,true),(14,false),(15,false)],[16,17,18,19,20,21],by kernel_rfl,?_⟩
 (repeat show _∧_;first|refine yr ?_|refine yt ?_|refine yf ?_|refine yo ?_)
 refine And.intro (And.intro ?_ ?_) ?_
 ·refine And.intro (show 0+scale 1 (0+1)≤1 by decide) ?_
  refine And.intro ⟨he,by rw [sc1]; omega,show (m+1)*16≤140737488355328 by omega⟩ ?_
  intro e2 he2
  refine And.intro rfl ?_
  refine And.intro (show 0+5≤5 by decide) ?_
  refine And.intro (show 0+scale 1 (4+1)≤5 by decide) ?_
  refine And.intro ⟨hc,by rw [sc5]; omega,show (m+1)*80≤140737488355328 by omega⟩ ?_
  intro c2 hc2
  (repeat show _∧_;first|refine yr ?_|refine yt ?_|refine yf ?_|refine yo ?_)
  refine ⟨.tup [],_,⟨[0,1,2,3,8,6],⟨rfl,rfl,rfl⟩,?_⟩,c2,e2,hc2,he2,rfl,rfl⟩
  (repeat first|exact trivial|refine ent1 ?_)
  refine And.intro (fun j hj=>hX _ j) ?_
  (repeat first|exact trivial|refine ent1 ?_)
  refine And.intro (fun j hj=>eqJ_app hr (appJ_cs (new:=[.w8 5#8,.w64 0#64,.str [],.sl 3 0 0 p pc,.slc none 0 0]) (m:=1) (sz:=4) (by rw [hl]) (fun _ _=>rfl) rfl fun j hj=>updJ_new hj) (fun i hi=>?_) j) ?_
  ·match i,hi with
   | 0,_=>(repeat first|exact trivial|refine ent1 ?_)
   | 1,_=>(repeat first|exact trivial|refine ent1 ?_)
   | 2,_=>(repeat first|exact trivial|refine ent1 ?_)
   | 3,_=>(repeat first|exact trivial|refine ent1 ?_)
   | 4,_=>(repeat first|exact trivial|refine ent1 ?_)
  (repeat first|exact trivial|refine ent1 ?_)
  exact ⟨fun j hj=>eqJ_cs (nmL_raw _) (fun j hj=>nmL_approw hn j hj) j,by (repeat first|exact trivial|refine ent1 ?_)⟩
 ·refine And.intro rfl ?_
  refine And.intro (show 0+5≤5 by decide) ?_
  refine And.intro (show 0+scale 1 (0+1)≤1 by decide) ?_
  refine And.intro ⟨he,by rw [sc1]; omega,show (m+1)*16≤140737488355328 by omega⟩ ?_
  intro e2 he2
  refine And.intro (show 0+scale 1 (4+1)≤5 by decide) ?_
  refine And.intro ⟨hc,by rw [sc5]; omega,show (m+1)*80≤140737488355328 by omega⟩ ?_
  intro c2 hc2
  (repeat show _∧_;first|refine yr ?_|refine yt ?_|refine yf ?_|refine yo ?_)
  refine ⟨.tup [],_,⟨[0,1,2,3,8,7],⟨rfl,rfl,rfl⟩,?_⟩,c2,e2,hc2,he2,rfl,rfl⟩
  (repeat first|exact trivial|refine ent1 ?_)
  refine And.intro (fun j hj=>hX _ j) ?_
  (repeat first|exact trivial|refine ent1 ?_)
  refine And.intro (fun j hj=>eqJ_app hr (appJ_cs (new:=[.w8 5#8,.w64 0#64,.str [],.sl 3 0 0 p pc,.slc none 0 0]) (m:=1) (sz:=4) (by rw [hl]) (fun _ _=>rfl) rfl fun j hj=>updJ_new hj) (fun i hi=>?_) j) ?_
  ·match i,hi with
   | 0,_=>(repeat first|exact trivial|refine ent1 ?_)
   | 1,_=>(repeat first|exact trivial|refine ent1 ?_)
   | 2,_=>(repeat first|exact trivial|refine ent1 ?_)
   | 3,_=>(repeat first|exact trivial|refine ent1 ?_)
   | 4,_=>(repeat first|exact trivial|refine ent1 ?_)
  (repeat first|exact trivial|refine ent1 ?_)
  exact ⟨fun j hj=>eqJ_cs (nmL_raw _) (fun j hj=>nmL_approw hn j hj) j,by (repeat first|exact trivial|refine ent1 ?_)⟩
 ·refine And.intro rfl ?_
  refine And.intro (show 0+5≤5 by decide) ?_
  refine And.intro (show 0+scale 1 (0+1)≤1 by decide) ?_
  refine And.intro ⟨he,by rw [sc1]; omega,show (m+1)*16≤140737488355328 by omega⟩ ?_
  intro e2 he2
  refine And.intro (show 0+scale 1 (4+1)≤5 by decide) ?_
  refine And.intro ⟨hc,by rw [sc5]; omega,show (m+1)*80≤140737488355328 by omega⟩ ?_
  intro c2 hc2
  (repeat show _∧_;first|refine yr ?_|refine yt ?_|refine yf ?_|refine yo ?_)
  refine ⟨.tup [],_,⟨[0,1,2,3,8,7],⟨rfl,rfl,rfl⟩,?_⟩,c2,e2,hc2,he2,rfl,rfl⟩
  (repeat first|exact trivial|refine ent1 ?_)
  refine And.intro (fun j hj=>hX _ j) ?_
  (repeat first|exact trivial|refine ent1 ?_)
  refine And.intro (fun j hj=>eqJ_app hr (appJ_cs (new:=[.w8 5#8,.w64 0#64,.str [],.sl 3 0 0 p pc,.slc none 0 0]) (m:=1) (sz:=4) (by rw [hl]) (fun _ _=>rfl) rfl fun j hj=>updJ_new hj) (fun i hi=>?_) j) ?_
  ·match i,hi with
   | 0,_=>(repeat first|exact trivial|refine ent1 ?_)
   | 1,_=>(repeat first|exact trivial|refine ent1 ?_)
   | 2,_=>(repeat first|exact trivial|refine ent1 ?_)
   | 3,_=>(repeat first|exact trivial|refine ent1 ?_)
   | 4,_=>(repeat first|exact trivial|refine ent1 ?_)
  (repeat first|exact trivial|refine ent1 ?_)
  exact ⟨fun j hj=>eqJ_cs (nmL_raw _) (fun j hj=>nmL_approw hn j hj) j,by (repeat first|exact trivial|refine ent1 ?_)⟩
end Sx
end
section
namespace Qj
open Sha Js Ev
theorem names_data:∀ k:BitVec 8,evOk k=true→evNames k=[]→evData k=false:=by decide +kernel
theorem names_le9:∀ k:BitVec 8,(evNames k).length≤9:=by decide +kernel
theorem check0 {e:Ev} (h:checkM e=0):evOk e.k=true∧e.N.length=(evNames e.k).length∧e.D.length≤20∧(evData e.k=false→e.D=[]):=by
 unfold checkM at h
 split at h
 ·cases h
 rename_i h1
 split at h
 ·cases h
 split at h
 ·cases h
 rename_i h3
 split at h
 ·cases h
 rename_i h4
 split at h
 ·cases h
 rename_i h5
 refine ⟨by simpa using h1,by simpa using h3,by omega,fun hd=>?_⟩
 refine List.eq_nil_of_length_eq_zero ?_
 rcases Nat.eq_zero_or_pos e.D.length with h|h
 ·exact h
 ·exact absurd ⟨h,hd⟩ h5
end Qj
namespace Sx
open Go.RowKit Sha Vi Js Ev Qj

def ValueA (W:World) (ms:List Nat) (e:Ev) (y:SV) (hs:List (List Seg)):Prop :=
 (checkM e≠0∧y=.tup [.agg (jvS jt0 jc0),.c (.int .i64 (checkM e))]∧hs=[[.past W ms]]) ∨
 (checkM e=0∧∃ x W' ms',Later W ms W' ms'∧TAt W' ms' 2 (evJ e) x∧y=.tup [.agg (jvS (evJ e) x),.c (.int .i64 0)]∧hs=[[.past W' ms']])
theorem RowJ.frz2 {W:World} {ms:List Nat} {A:Addr} {F:Nat→Bool} {α:Nat→Addr} {n c d:Nat} {cs:List SC} {l:List JT} {g:Nat→SC} (k:RowJ W ms d cs l) (hg:∀ j,j<cs.length→((g j).rz F α).raw=nthC cs j)
  (h:flat [.row (scale c (4+1)) g]≠[]→ImAt W ms A (((flat [.row (scale c (4+1)) g]).map (SC.rz F α)).map SC.raw)∧(marksOk=false→Unm W ms A)) (hmk:marksOk=false) (hn:l.length=n) (hc:n≤c) (hcap:n≤9223372036854775807) :
  l.length=n∧n≤c∧n≤9223372036854775807∧(some (A.add (0+0))=none→c=0)∧∀ B,some (A.add (0+0))=some B→n≠0→Unm W ms B∧∀ j e,l[j]?=some e→∃ y,ImAt W ms (B.add (j*5)) (flat (jvS e y))∧TAt W ms d e y:=by
 refine ⟨hn,hc,hcap,(fun e=>by cases e),fun B hB hn0=>?_⟩
 injection hB with hB
 subst hB
 have hne:flat [.row (scale c (4+1)) g]≠[]:=by
  intro e
  have:=congrArg List.length e
  simp [flat,sc5] at this
  omega
 obtain ⟨h1,h2⟩:=h hne
 rw [show A.add (0+0)=A from h1.zero]
 refine ⟨h2 hmk,fun j e he=>?_⟩
 obtain ⟨x,x1,x2⟩:=k.elt j e he
 have hj:j<n:=by rw [← hn]; exact (List.getElem?_eq_some_iff.1 he).1
 refine ⟨x,h1.part (j*5) fun i y hy=>?_,x2⟩
 have hi:i<5:=(List.getElem?_eq_some_iff.1 hy).1
 have hcs:=x1 i y hy
 have hlen:=k.len
 have hjn:j*5+i<scale c (4+1):=by rw [sc5]; omega
 rw [List.getElem?_map,List.getElem?_map]
 simp only [flat,List.append_nil,List.getElem?_map,List.getElem?_range hjn,Option.map_some]
 rw [hg _ ((List.getElem?_eq_some_iff.1 hcs).1),nthC_get? hcs]
theorem rz_app {g:Nat→Nat} {F:Nat→Bool} {α:Nat→Addr} {cs D E:List SC} (hr:∀ x∈cs,x.raw=x) (hl:D.length=E.length) (hD:∀ i,i<D.length→((SC.mp g (nthC D i)).rz F α).raw=nthC E i) (j:Nat) (hj:j<(cs++E).length):((SC.mp g (nthC (cs++D) j)).rz F α).raw=nthC (cs++E) j:=by
 rw [List.length_append] at hj
 rcases Nat.lt_or_ge j cs.length with h|h
 ·rw [nthJ_l h,nthJ_l h,mpJ_raw (hr _ (nthJ_mem h)),rzJ_raw (hr _ (nthJ_mem h))]
 ·rw [nthJ_r h,nthJ_r h]
  exact hD _ (by omega)
set_option maxRecDepth 20000 in
set_option maxHeartbeats 32000000 in
theorem fn_qvalue {W:World} {ms:List Nat} {x:EvC} {e:Ev} (hx:EvAt W ms x e):FnR Tryd.prog tds 12 1 [[.past W ms]] [.agg (evS e x)] (fun _=>True) (ValueA W ms e):=by
 refine fn_of_bodyW tds_ok follows_ Tryd.func12 rfl (t:=.a (.agg (evS e x))::anys (Tryd.f12.ntmps-1)) rfl (fun w r0 hr0 _=>?_)
 obtain ⟨x0,rfl⟩:=len1' hr0
 (repeat show _∧_;first|refine yr ?_|refine yt ?_|refine yf ?_|refine yo ?_)
 refine call_same (fn_echeck hx) [0] rfl (by (repeat first|exact trivial|refine ent1 ?_)) (by (repeat first|exact trivial|refine ent1 ?_)) (fun _ _=>trivial) ?_
 rintro y hs ⟨rfl,rfl⟩
 by_cases hc:checkM e=0
 rotate_left
 ·have f1:decide (checkM e≠0)=true:=decide_eq_true hc
  (repeat show _∧_;first|refine yr ?_|refine yt ?_|refine yf ?_|refine ya f1 ?_|refine yb f1 ?_|refine yo ?_)
  exact FinW.of ⟨.tup [.agg (jvS jt0 jc0),.c (.int .i64 (checkM e))],_,⟨[0],⟨rfl,rfl,rfl⟩,by (repeat first|exact trivial|refine ent1 ?_)⟩,.inl ⟨hc,rfl,rfl⟩⟩
 obtain ⟨k1,k2,k3,k4⟩:=check0 hc
 have k5:=names_data e.k k1
 have k6:=names_le9 e.k
 rw [hc]
 (repeat show _∧_;first|refine yr ?_|refine yt ?_|refine yf ?_|refine yo ?_)
 refine call_same (fn_eof e.k) [] rfl (by (repeat first|exact trivial|refine ent1 ?_)) trivial (fun _ _=>trivial) ?_
 rintro y hs ⟨rfl,rfl⟩
 have hDN:dataNs e.k=(evNames e.k).map nsB++if evData e.k=true then [idB] else []:=rfl
 obtain ⟨l,hl⟩:∃ l,evNames e.k=l:=⟨_,rfl⟩
 rw [hl] at k2 k5 k6 hDN ⊢
 clear hl
 (repeat show _∧_;first|refine yr ?_|refine yt ?_|refine yf ?_|refine yo ?_)
 cases l with
 | nil =>
  have hd:=k5 rfl
  refine .inr ⟨1,?_⟩
  (repeat show _∧_;first|refine yr ?_|refine yt ?_|refine yf ?_|refine ya hd ?_|refine yb hd ?_|refine yo ?_)
  have hN0:e.N=[]:=List.eq_nil_of_length_eq_zero k2
  have hDL:dataL e=[]:=by unfold dataL; rw [hN0,hd]; rfl
  have hDN:dataNs e.k=[]:=by rw [hDN,hd]; rfl
  refine call_same (fn_qnum e.t) [] rfl (by (repeat first|exact trivial|refine ent1 ?_)) trivial (fun _ _=>trivial) ?_
  rintro y hs ⟨rfl,rfl⟩
  (repeat show _∧_;first|refine yr ?_|refine yt ?_|refine yf ?_|refine yo ?_)
  refine call_same (fn_qadd0 (tNum e.t) jc0 timeB) [6] rfl (by (repeat first|exact trivial|refine ent1 ?_)) (by (repeat first|exact trivial|refine ent1 ?_)) (fun _ _=>trivial) ?_
  rintro y hs ⟨c3,d3,hc3,hd3,rfl,rfl⟩
  (repeat show _∧_;first|refine yr ?_|refine yt ?_|refine yf ?_|refine yo ?_)
  refine call_same (fn_qtext (evNm e.k)) [] rfl (by exact And.intro (U8_nsB _).symm trivial) trivial (fun _ _=>trivial) ?_
  rintro y hs ⟨rfl,rfl⟩
  (repeat show _∧_;first|refine yr ?_|refine yt ?_|refine yf ?_|refine yo ?_)
  refine call_same (fn_qadd1 (flat (jvS (tNum e.t) jc0)) [timeB] 1 c3 d3 (jv_raw _ _) rfl rfl hc3 hd3 (by decide) (tText (evNm e.k)) jc0 nameB) [6,7,8] rfl (by (repeat first|exact trivial|refine ent1 ?_)) ?_ (fun _ _=>trivial) ?_
  ·(repeat first|exact trivial|refine ent1 ?_)
   refine ⟨fun j hj=>eqJ_csM (jv_raw _ _) j,?_⟩
   (repeat first|exact trivial|refine ent1 ?_)
   exact ⟨fun j hj=>eqJ_csM (nmL_raw _) j,by (repeat first|exact trivial|refine ent1 ?_)⟩
  rintro y hs ⟨c4,d4,hc4,hd4,rfl,rfl⟩
  have hraw2:∀ y∈flat (jvS (tNum e.t) jc0)++flat (jvS (tText (evNm e.k)) jc0),y.raw=y:=fun y hy=>(List.mem_append.1 hy).elim (jv_raw _ _ y) (jv_raw _ _ y)
  obtain ⟨cs2,hcs2⟩:∃ cs2,flat (jvS (tNum e.t) jc0)++flat (jvS (tText (evNm e.k)) jc0)=cs2:=⟨_,rfl⟩
  have hlen2:cs2.length=2*5:=by rw [← hcs2]; rfl
  rw [hcs2] at hraw2 ⊢
  (repeat show _∧_;first|refine yr ?_|refine yt ?_|refine yf ?_|refine yo ?_)
  refine call_same (fn_qadd1 cs2 [timeB,nameB] 2 c4 d4 hraw2 hlen2 rfl hc4 hd4 (by decide) (dataJ e) jc0 dataB) [6,9,10] rfl (by (repeat first|exact trivial|refine ent1 ?_)) ?_ (fun _ _=>trivial) ?_
  ·(repeat first|exact trivial|refine ent1 ?_)
   refine ⟨fun j hj=>eqJ_csM hraw2 j,?_⟩
   (repeat first|exact trivial|refine ent1 ?_)
   exact ⟨fun j hj=>eqJ_csM (nmL_raw _) j,by (repeat first|exact trivial|refine ent1 ?_)⟩
  rintro y hs ⟨c5,d5,hc5,hd5,rfl,rfl⟩
  (repeat show _∧_;first|refine yr ?_|refine yt ?_|refine yf ?_|refine yo ?_)
  refine finW_frzU [0] rfl (Nat.zero_lt_one) cx0_m rfl (fun W9 ms9 α hL9 hI=>?_)
  have hdat:TAt W9 ms9 1 (dataJ e) jc0:=TAt.leaf (v:=dataJ e) hDL hDN 1
  have hroot:RowJ W9 ms9 1 (cs2++flat (jvS (dataJ e) jc0)) [tNum e.t,tText (evNm e.k),dataJ e]:=by
   rw [← hcs2]
   exact ((RowJ.nil.snoc (v:=tNum e.t) (x:=jc0) (TAt.leaf rfl rfl 1)).snoc (v:=tText (evNm e.k)) (x:=jc0) (TAt.leaf rfl rfl 1)).snoc hdat
  have hrawF:∀ y∈cs2++flat (jvS (dataJ e) jc0),y.raw=y:=fun y hy=>(List.mem_append.1 hy).elim (hraw2 y) (jv_raw _ _ y)
  have hfn:=strs_frz (l:=[timeB,nameB,dataB].map U8) (F:=fun j=>!memB j [0]) (fun j hj=>mpJ_raw (nmL_raw _ _ (nthJ_mem (l:=nmJ [timeB,nameB,dataB]) hj))) (fun h=>(hI 12 rfl h).1) (n:=3) rfl hd5 (by decide)
  refine ⟨.tup [.agg (jvS (evJ e) ⟨some ((α 11).add (0+0)),3,c5,some ((α 12).add (0+0)),3,d5⟩),.c (.int .i64 0)],[],⟨⟨rfl,rfl,rfl⟩,?_⟩,.inr ⟨hc,⟨some ((α 11).add (0+0)),3,c5,some ((α 12).add (0+0)),3,d5⟩,W9,ms9,hL9,⟨hroot.frz2 (F:=fun j=>!memB j [0]) (fun j hj=>by simp only [mpJ_raw (hrawF _ (nthJ_mem hj)),rzJ_raw (hrawF _ (nthJ_mem hj))]) (hI 11 rfl) marks_off (n:=3) rfl hc5 (by decide),hfn⟩,rfl,rfl⟩⟩
  ·(repeat first|exact trivial|refine ent1 ?_)
 | cons nm0 l0 =>
 obtain ⟨l,hl⟩:∃ l,nm0::l0=l:=⟨_,rfl⟩
 have hl0:0<l.length:=by rw [← hl]; simp
 have hstB:stB (nm0::l0)=[.row l.length (strsF l)]:=by rw [← hl]; rfl
 have hstC:∀ i,stC i (nm0::l0)=.sn false i 0 0 l.length l.length:=by intro i; rw [← hl]; rfl
 rw [hl] at k2 k6 hDN
 clear k5
 rw [hstB,hstC]
 clear hstB hstC hl
 (repeat show _∧_;first|refine yr ?_|refine yt ?_|refine yf ?_|refine yo ?_)
 refine .inl ⟨Nat × Option (List SC × Nat × Nat),fun y=>match y with
  | (j,none)=>⟨[.any,.a (.c (.p 1 0 0)),.a (.c (.p 2 0 0)),.a (.c (.int .i64 (0))),.any,.a (.c (.p 4 0 0)),.any,.a (.c (.p 5 0 0)),.any,.any,.any,.any,.any,.any,.any,.any,.any,.any,.any,.any,.any,.any,.any,.any,.any,.a (.c (.sn false 3 0 0 l.length l.length)),.a (.c (.int .i64 (l.length))),.a (.c (.int .i64 (((j:Nat):Int)))),.any,.any,.any,.any,.any,.any,.any,.any,.any,.any,.any,.any,.any,.any,.any,.any,.any,.any,.any,.any,.any,.any,.any,.any,.any,.any,.any,.any,.any,.any],[[.past W ms],evS e x,vz,[.row l.length (strsF l)],[.one (.str (evName e.k)),.one (.sn false 3 0 0 l.length l.length),.one (.bool (evData e.k))],vo0]⟩
  | (j,some (cs,c,d))=>⟨[.any,.a (.c (.p 1 0 0)),.a (.c (.p 2 0 0)),.a (.c (.int .i64 (0))),.any,.a (.c (.p 4 0 0)),.any,.a (.c (.p 5 0 0)),.any,.any,.any,.any,.any,.any,.any,.any,.any,.any,.any,.any,.any,.any,.any,.any,.any,.a (.c (.sn false 3 0 0 l.length l.length)),.a (.c (.int .i64 (l.length))),.a (.c (.int .i64 (((j:Nat):Int)))),.any,.any,.any,.any,.any,.any,.any,.any,.any,.any,.any,.any,.any,.any,.any,.any,.any,.any,.any,.any,.any,.any,.any,.any,.any,.any,.any,.any,.any,.any],[[.past W ms],evS e x,vz,[.row l.length (strsF l)],[.one (.str (evName e.k)),.one (.sn false 3 0 0 l.length l.length),.one (.bool (evData e.k))],vo1 6 j c 7 j d,[.row (scale c (4+1)) (nthC cs)],[.row (scale d (0+1)) (nthC (nmJ ((l.take j).map nsB)))]]⟩,
  fun y=>match y with
  | (j,none)=>j=0
  | (j,some (cs,c,d))=>0<j∧j≤l.length∧j≤c∧j≤d∧RowJ W ms 0 cs ((e.N.take j).map tNum),fun y=>l.length-y.1,⟨(0,none),[0,1,2,3,4,5],⟨⟨rfl,rfl,rfl⟩,?_⟩,rfl⟩,fun y hy=>?_⟩
 ·(repeat first|exact trivial|refine ent1 ?_)
  exact ⟨fun j hj=>eqC_strsM l hj,by (repeat first|exact trivial|refine ent1 ?_)⟩
 rcases y with ⟨j,_|⟨cs,c,d⟩⟩
 ·obtain rfl:j=0:=hy
  dsimp only
  have hj:0<l.length:=hl0
  have e1:decide (((0:Nat):Int)<(l.length:Int))=true:=decide_eq_true (by omega)
  have hjN:0<e.N.length:=by omega
  have hsj:strsF l 0=.str (U8 (nsB (l[0]'hj))):=by rw [U8_nsB]; obtain ⟨s,h1,h2⟩:=nthC_str l 0 hj; rw [List.getElem?_eq_getElem hj] at h2; injection h2 with h2; rw [h2]; exact h1
  have hlt:(l.take (0+1)).map nsB=(l.take 0).map nsB++[nsB (l[0]'hj)]:=by rw [List.take_add_one,List.getElem?_eq_getElem hj,Option.toList_some,List.map_append]; rfl
  have hNt:(e.N.take (0+1)).map tNum=(e.N.take 0).map tNum++[tNum (e.N[0]'hjN)]:=by rw [List.take_add_one,List.getElem?_eq_getElem hjN,Option.toList_some,List.map_append]; rfl
  have hnum:=fn_qnum1 hx 0 hjN
  generalize (l[0]'hj)=nm at hsj hlt
  generalize (e.N[0]'hjN)=n at hNt hnum
  (repeat show _∧_;first|refine yr ?_|refine yt ?_|refine yf ?_|refine ya e1 ?_|refine yb e1 ?_|refine yo ?_)
  refine frc_atQ (y:=.str (U8 (nsB nm))) (by exact hsj) ?_
  (repeat show _∧_;first|refine yr ?_|refine yt ?_|refine yf ?_|refine yo ?_)
  refine call_same hnum [0] rfl (by (repeat first|exact trivial|refine ent1 ?_)) (by (repeat first|exact trivial|refine ent1 ?_)) (fun _ _=>trivial) ?_
  rintro y hs ⟨rfl,rfl⟩
  (repeat show _∧_;first|refine yr ?_|refine yt ?_|refine yf ?_|refine yo ?_)
  refine call_same (fn_qnum n) [] rfl (by (repeat first|exact trivial|refine ent1 ?_)) trivial (fun _ _=>trivial) ?_
  rintro y hs ⟨rfl,rfl⟩
  (repeat show _∧_;first|refine yr ?_|refine yt ?_|refine yf ?_|refine yo ?_)
  refine call_same (fn_qadd0 (tNum n) jc0 (nsB nm)) [5] rfl (by (repeat first|exact trivial|refine ent1 ?_)) (by (repeat first|exact trivial|refine ent1 ?_)) (fun _ _=>trivial) ?_
  rintro y hs ⟨c2,d2,hc2,hd2,rfl,rfl⟩
  (repeat show _∧_;first|refine yr ?_|refine yt ?_|refine yf ?_|refine yo ?_)
  refine ⟨(1,some (flat (jvS (tNum n) jc0),c2,d2)),[0,1,2,3,4,5,6,7],⟨⟨rfl,rfl,rfl⟩,?_⟩,⟨Nat.zero_lt_one,hl0,hc2,hd2,?_⟩,by dsimp only; omega⟩
  ·dsimp only
   rw [hlt]
   (repeat first|exact trivial|refine ent1 ?_)
   refine ⟨fun j hj=>eqC_strs l hj,?_⟩
   (repeat first|exact trivial|refine ent1 ?_)
   refine ⟨fun j hj=>eqJ_csM (jv_raw _ _) j,?_⟩
   (repeat first|exact trivial|refine ent1 ?_)
   exact ⟨fun j hj=>eqJ_csM (nmL_raw _) j,by (repeat first|exact trivial|refine ent1 ?_)⟩
  ·rw [hNt]
   exact RowJ.nil.snoc (TAt.leaf rfl rfl 0)
 ·obtain ⟨h1,h2,h3,h4,hrow⟩:=hy
  dsimp only
  have hrl:=hrow.len
  rw [List.length_map,List.length_take] at hrl
  by_cases hj:j<l.length
  rotate_left
  ·have e1:decide ((j:Int)<(l.length:Int))=false:=decide_eq_false (by omega)
   obtain rfl:j=l.length:=by omega
   rw [List.take_length]
   rw [List.take_of_length_le (by omega)] at hrow
   cases hd:evData e.k
   ·(repeat show _∧_;first|refine yr ?_|refine yt ?_|refine yf ?_|refine ya e1 ?_|refine yb e1 ?_|refine ya hd ?_|refine yb hd ?_|refine yo ?_)
    have hrowD:RowJ W ms 0 cs (dataL e):=by rwa [show dataL e=e.N.map tNum by unfold dataL; rw [hd,if_neg (by decide),List.append_nil]]
    have hDN:dataNs e.k=l.map nsB:=by rw [hDN,hd,if_neg (by decide),List.append_nil]
    refine call_same (fn_qnum e.t) [] rfl (by (repeat first|exact trivial|refine ent1 ?_)) trivial (fun _ _=>trivial) ?_
    rintro y hs ⟨rfl,rfl⟩
    (repeat show _∧_;first|refine yr ?_|refine yt ?_|refine yf ?_|refine yo ?_)
    refine call_same (fn_qadd0 (tNum e.t) jc0 timeB) [8] rfl (by (repeat first|exact trivial|refine ent1 ?_)) (by (repeat first|exact trivial|refine ent1 ?_)) (fun _ _=>trivial) ?_
    rintro y hs ⟨c3,d3,hc3,hd3,rfl,rfl⟩
    (repeat show _∧_;first|refine yr ?_|refine yt ?_|refine yf ?_|refine yo ?_)
    refine call_same (fn_qtext (evNm e.k)) [] rfl (by exact And.intro (U8_nsB _).symm trivial) trivial (fun _ _=>trivial) ?_
    rintro y hs ⟨rfl,rfl⟩
    (repeat show _∧_;first|refine yr ?_|refine yt ?_|refine yf ?_|refine yo ?_)
    refine call_same (fn_qadd1 (flat (jvS (tNum e.t) jc0)) [timeB] 1 c3 d3 (jv_raw _ _) rfl rfl hc3 hd3 (by decide) (tText (evNm e.k)) jc0 nameB) [8,9,10] rfl (by (repeat first|exact trivial|refine ent1 ?_)) ?_ (fun _ _=>trivial) ?_
    ·(repeat first|exact trivial|refine ent1 ?_)
     refine ⟨fun j hj=>eqJ_csM (jv_raw _ _) j,?_⟩
     (repeat first|exact trivial|refine ent1 ?_)
     exact ⟨fun j hj=>eqJ_csM (nmL_raw _) j,by (repeat first|exact trivial|refine ent1 ?_)⟩
    rintro y hs ⟨c4,d4,hc4,hd4,rfl,rfl⟩
    have hraw2:∀ y∈flat (jvS (tNum e.t) jc0)++flat (jvS (tText (evNm e.k)) jc0),y.raw=y:=fun y hy=>(List.mem_append.1 hy).elim (jv_raw _ _ y) (jv_raw _ _ y)
    obtain ⟨cs2,hcs2⟩:∃ cs2,flat (jvS (tNum e.t) jc0)++flat (jvS (tText (evNm e.k)) jc0)=cs2:=⟨_,rfl⟩
    have hlen2:cs2.length=2*5:=by rw [← hcs2]; rfl
    rw [hcs2] at hraw2 ⊢
    (repeat show _∧_;first|refine yr ?_|refine yt ?_|refine yf ?_|refine yo ?_)
    refine call_same (fn_qadd2 cs2 [timeB,nameB] 2 c4 d4 hraw2 hlen2 rfl hc4 hd4 (by decide) l.length c l.length d (nthC cs) (nthC (nmJ (l.map nsB))) (scale c (4+1)) (scale d (0+1)) (fun q j=>eqJ_cs hrowD.raw (fun _ _=>rfl) j) (fun q j=>eqJ_cs (nmL_raw _) (fun _ _=>rfl) j) dataB) [8,11,12,6,7] rfl (by (repeat first|exact trivial|refine ent1 ?_)) ?_ (fun _ _=>trivial) ?_
    ·(repeat first|exact trivial|refine ent1 ?_)
     refine ⟨fun j hj=>eqJ_csM hraw2 j,?_⟩
     (repeat first|exact trivial|refine ent1 ?_)
     refine ⟨fun j hj=>eqJ_csM (nmL_raw _) j,?_⟩
     (repeat first|exact trivial|refine ent1 ?_)
     refine ⟨fun j hj=>eqJ_cs hrowD.raw (fun _ _=>rfl) j,?_⟩
     (repeat first|exact trivial|refine ent1 ?_)
     exact ⟨fun j hj=>eqJ_cs (nmL_raw _) (fun _ _=>rfl) j,by (repeat first|exact trivial|refine ent1 ?_)⟩
    rintro y hs ⟨c5,d5,hc5,hd5,rfl,rfl⟩
    (repeat show _∧_;first|refine yr ?_|refine yt ?_|refine yf ?_|refine yo ?_)
    refine finW_frzU [0] rfl (Nat.zero_lt_one) cx0_m rfl (fun W9 ms9 α hL9 hI=>?_)
    have hdl:(dataL e).length=l.length:=by have:=hrowD.len; unfold dataL; rw [hd,if_neg (by decide),List.length_append,List.length_map,k2]; rfl
    have hdat:TAt W9 ms9 1 (dataJ e) ⟨some ((α 6).add (0+0)),l.length,c,some ((α 7).add (0+0)),l.length,d⟩:=⟨(hrowD.later hL9).frz2 (F:=fun j=>!memB j [0]) (fun j hj=>by simp only [mpJ_raw (hrowD.raw _ (nthJ_mem hj)),rzJ_raw (hrowD.raw _ (nthJ_mem hj))]) (hI 6 rfl) marks_off (n:=l.length) hdl h3 (by omega),?_⟩
    rotate_left
    ·show StAt W9 ms9 _ _ _ ((dataNs e.k).map U8)
     rw [hDN]
     exact strs_frz (l:=(l.map nsB).map U8) (F:=fun j=>!memB j [0]) (fun j hj=>mpJ_raw (nmL_raw _ _ (nthJ_mem (l:=nmJ (l.map nsB)) hj))) (fun h=>(hI 7 rfl h).1) (n:=l.length) (by simp) h4 (by omega)
    have hroot:RowJ W9 ms9 1 (cs2++flat (jvS (dataJ e) ⟨some ((α 6).add (0+0)),l.length,c,some ((α 7).add (0+0)),l.length,d⟩)) [tNum e.t,tText (evNm e.k),dataJ e]:=by
     rw [← hcs2]
     exact ((RowJ.nil.snoc (v:=tNum e.t) (x:=jc0) (TAt.leaf rfl rfl 1)).snoc (v:=tText (evNm e.k)) (x:=jc0) (TAt.leaf rfl rfl 1)).snoc hdat
    have hfn:=strs_frz (l:=[timeB,nameB,dataB].map U8) (F:=fun j=>!memB j [0]) (fun j hj=>mpJ_raw (nmL_raw _ _ (nthJ_mem (l:=nmJ [timeB,nameB,dataB]) hj))) (fun h=>(hI 14 rfl h).1) (n:=3) rfl hd5 (by decide)
    refine ⟨.tup [.agg (jvS (evJ e) ⟨some ((α 13).add (0+0)),3,c5,some ((α 14).add (0+0)),3,d5⟩),.c (.int .i64 0)],[],⟨⟨rfl,rfl,rfl⟩,?_⟩,.inr ⟨hc,⟨some ((α 13).add (0+0)),3,c5,some ((α 14).add (0+0)),3,d5⟩,W9,ms9,hL9,⟨hroot.frz2 (F:=fun j=>!memB j [0]) (fun j hj=>rz_app (g:=bk 13 [8,11,12,6,7]) (D:=[.w8 6#8,.w64 0#64,.str [],.sl 3 0 0 l.length c,.sl 4 0 0 l.length d]) (E:=flat (jvS (dataJ e) ⟨some ((α 6).add (0+0)),l.length,c,some ((α 7).add (0+0)),l.length,d⟩)) hraw2 rfl (fun i hi=>?_) j hj) (hI 13 rfl) marks_off (n:=3) rfl hc5 (by decide),hfn⟩,rfl,rfl⟩⟩
    ·(repeat first|exact trivial|refine ent1 ?_)
    match i,hi with
    | 0,_=>rfl
    | 1,_=>rfl
    | 2,_=>rfl
    | 3,_=>rfl
    | 4,_=>rfl
   ·(repeat show _∧_;first|refine yr ?_|refine yt ?_|refine yf ?_|refine ya e1 ?_|refine yb e1 ?_|refine ya hd ?_|refine yb hd ?_|refine yo ?_)
    refine call_same (fn_qdigits hx.D (by omega)) [0] rfl (by (repeat first|exact trivial|refine ent1 ?_)) (by (repeat first|exact trivial|refine ent1 ?_)) (fun _ _=>trivial) ?_
    rintro y hs ⟨rfl,rfl⟩
    (repeat show _∧_;first|refine yr ?_|refine yt ?_|refine yf ?_|refine yo ?_)
    refine call_same (fn_qtext (hexB e.D)) [] rfl (by (repeat first|exact trivial|refine ent1 ?_)) trivial (fun _ _=>trivial) ?_
    rintro y hs ⟨rfl,rfl⟩
    (repeat show _∧_;first|refine yr ?_|refine yt ?_|refine yf ?_|refine yo ?_)
    refine call_same (fn_qadd1 cs (l.map nsB) l.length c d hrow.raw (by omega) (by rw [List.length_map]) h3 h4 (by omega) (tText (hexB e.D)) jc0 idB) [5,6,7] rfl (by (repeat first|exact trivial|refine ent1 ?_)) ?_ (fun _ _=>trivial) ?_
    ·(repeat first|exact trivial|refine ent1 ?_)
     refine ⟨fun j hj=>eqJ_cs hrow.raw (fun _ _=>rfl) j,?_⟩
     (repeat first|exact trivial|refine ent1 ?_)
     exact ⟨fun j hj=>eqJ_cs (nmL_raw _) (fun _ _=>rfl) j,by (repeat first|exact trivial|refine ent1 ?_)⟩
    rintro y hs ⟨c0,d0,hc0,hd0,rfl,rfl⟩
    have hrowD:RowJ W ms 0 (cs++flat (jvS (tText (hexB e.D)) jc0)) (dataL e):=by
     have:=hrow.snoc (v:=tText (hexB e.D)) (x:=jc0) (TAt.leaf rfl rfl 0)
     rwa [show dataL e=e.N.map tNum++[tText (hexB e.D)] by unfold dataL; rw [hd,if_pos rfl]]
    have hDN:dataNs e.k=l.map nsB++[idB]:=by rw [hDN,hd,if_pos rfl]
    generalize cs++flat (jvS (tText (hexB e.D)) jc0)=cs0 at hrowD ⊢
    (repeat show _∧_;first|refine yr ?_|refine yt ?_|refine yf ?_|refine yo ?_)
    refine call_same (fn_qnum e.t) [] rfl (by (repeat first|exact trivial|refine ent1 ?_)) trivial (fun _ _=>trivial) ?_
    rintro y hs ⟨rfl,rfl⟩
    (repeat show _∧_;first|refine yr ?_|refine yt ?_|refine yf ?_|refine yo ?_)
    refine call_same (fn_qadd0 (tNum e.t) jc0 timeB) [10] rfl (by (repeat first|exact trivial|refine ent1 ?_)) (by (repeat first|exact trivial|refine ent1 ?_)) (fun _ _=>trivial) ?_
    rintro y hs ⟨c3,d3,hc3,hd3,rfl,rfl⟩
    (repeat show _∧_;first|refine yr ?_|refine yt ?_|refine yf ?_|refine yo ?_)
    refine call_same (fn_qtext (evNm e.k)) [] rfl (by exact And.intro (U8_nsB _).symm trivial) trivial (fun _ _=>trivial) ?_
    rintro y hs ⟨rfl,rfl⟩
    (repeat show _∧_;first|refine yr ?_|refine yt ?_|refine yf ?_|refine yo ?_)
    refine call_same (fn_qadd1 (flat (jvS (tNum e.t) jc0)) [timeB] 1 c3 d3 (jv_raw _ _) rfl rfl hc3 hd3 (by decide) (tText (evNm e.k)) jc0 nameB) [10,11,12] rfl (by (repeat first|exact trivial|refine ent1 ?_)) ?_ (fun _ _=>trivial) ?_
    ·(repeat first|exact trivial|refine ent1 ?_)
     refine ⟨fun j hj=>eqJ_csM (jv_raw _ _) j,?_⟩
     (repeat first|exact trivial|refine ent1 ?_)
     exact ⟨fun j hj=>eqJ_csM (nmL_raw _) j,by (repeat first|exact trivial|refine ent1 ?_)⟩
    rintro y hs ⟨c4,d4,hc4,hd4,rfl,rfl⟩
    have hraw2:∀ y∈flat (jvS (tNum e.t) jc0)++flat (jvS (tText (evNm e.k)) jc0),y.raw=y:=fun y hy=>(List.mem_append.1 hy).elim (jv_raw _ _ y) (jv_raw _ _ y)
    obtain ⟨cs2,hcs2⟩:∃ cs2,flat (jvS (tNum e.t) jc0)++flat (jvS (tText (evNm e.k)) jc0)=cs2:=⟨_,rfl⟩
    have hlen2:cs2.length=2*5:=by rw [← hcs2]; rfl
    rw [hcs2] at hraw2 ⊢
    (repeat show _∧_;first|refine yr ?_|refine yt ?_|refine yf ?_|refine yo ?_)
    refine call_same (fn_qadd2 cs2 [timeB,nameB] 2 c4 d4 hraw2 hlen2 rfl hc4 hd4 (by decide) (l.length+1) c0 (l.length+1) d0 (nthC cs0) (nthC (nmJ (l.map nsB++[idB]))) (scale c0 (4+1)) (scale d0 (0+1)) (fun q j=>eqJ_cs hrowD.raw (fun _ _=>rfl) j) (fun q j=>eqJ_cs (nmL_raw _) (fun _ _=>rfl) j) dataB) [10,13,14,8,9] rfl (by (repeat first|exact trivial|refine ent1 ?_)) ?_ (fun _ _=>trivial) ?_
    ·(repeat first|exact trivial|refine ent1 ?_)
     refine ⟨fun j hj=>eqJ_csM hraw2 j,?_⟩
     (repeat first|exact trivial|refine ent1 ?_)
     refine ⟨fun j hj=>eqJ_csM (nmL_raw _) j,?_⟩
     (repeat first|exact trivial|refine ent1 ?_)
     refine ⟨fun j hj=>eqJ_csM hrowD.raw j,?_⟩
     (repeat first|exact trivial|refine ent1 ?_)
     exact ⟨fun j hj=>eqJ_csM (nmL_raw _) j,by (repeat first|exact trivial|refine ent1 ?_)⟩
    rintro y hs ⟨c5,d5,hc5,hd5,rfl,rfl⟩
    (repeat show _∧_;first|refine yr ?_|refine yt ?_|refine yf ?_|refine yo ?_)
    refine finW_frzU [0] rfl (Nat.zero_lt_one) cx0_m rfl (fun W9 ms9 α hL9 hI=>?_)
    have hdl:(dataL e).length=(l.length+1):=by have:=hrowD.len; unfold dataL; rw [hd,if_pos rfl,List.length_append,List.length_map,k2]; rfl
    have hdat:TAt W9 ms9 1 (dataJ e) ⟨some ((α 8).add (0+0)),(l.length+1),c0,some ((α 9).add (0+0)),(l.length+1),d0⟩:=⟨(hrowD.later hL9).frz2 (F:=fun j=>!memB j [0]) (fun j hj=>by simp only [mpJ_raw (hrowD.raw _ (nthJ_mem hj)),rzJ_raw (hrowD.raw _ (nthJ_mem hj))]) (hI 8 rfl) marks_off (n:=(l.length+1)) hdl hc0 (by omega),?_⟩
    rotate_left
    ·show StAt W9 ms9 _ _ _ ((dataNs e.k).map U8)
     rw [hDN]
     exact strs_frz (l:=(l.map nsB++[idB]).map U8) (F:=fun j=>!memB j [0]) (fun j hj=>mpJ_raw (nmL_raw _ _ (nthJ_mem (l:=nmJ (l.map nsB++[idB])) hj))) (fun h=>(hI 9 rfl h).1) (n:=(l.length+1)) (by simp) hd0 (by omega)
    have hroot:RowJ W9 ms9 1 (cs2++flat (jvS (dataJ e) ⟨some ((α 8).add (0+0)),(l.length+1),c0,some ((α 9).add (0+0)),(l.length+1),d0⟩)) [tNum e.t,tText (evNm e.k),dataJ e]:=by
     rw [← hcs2]
     exact ((RowJ.nil.snoc (v:=tNum e.t) (x:=jc0) (TAt.leaf rfl rfl 1)).snoc (v:=tText (evNm e.k)) (x:=jc0) (TAt.leaf rfl rfl 1)).snoc hdat
    have hfn:=strs_frz (l:=[timeB,nameB,dataB].map U8) (F:=fun j=>!memB j [0]) (fun j hj=>mpJ_raw (nmL_raw _ _ (nthJ_mem (l:=nmJ [timeB,nameB,dataB]) hj))) (fun h=>(hI 16 rfl h).1) (n:=3) rfl hd5 (by decide)
    refine ⟨.tup [.agg (jvS (evJ e) ⟨some ((α 15).add (0+0)),3,c5,some ((α 16).add (0+0)),3,d5⟩),.c (.int .i64 0)],[],⟨⟨rfl,rfl,rfl⟩,?_⟩,.inr ⟨hc,⟨some ((α 15).add (0+0)),3,c5,some ((α 16).add (0+0)),3,d5⟩,W9,ms9,hL9,⟨hroot.frz2 (F:=fun j=>!memB j [0]) (fun j hj=>rz_app (g:=bk 15 [10,13,14,8,9]) (D:=[.w8 6#8,.w64 0#64,.str [],.sl 3 0 0 (l.length+1) c0,.sl 4 0 0 (l.length+1) d0]) (E:=flat (jvS (dataJ e) ⟨some ((α 8).add (0+0)),(l.length+1),c0,some ((α 9).add (0+0)),(l.length+1),d0⟩)) hraw2 rfl (fun i hi=>?_) j hj) (hI 15 rfl) marks_off (n:=3) rfl hc5 (by decide),hfn⟩,rfl,rfl⟩⟩
    ·(repeat first|exact trivial|refine ent1 ?_)
    match i,hi with
    | 0,_=>rfl
    | 1,_=>rfl
    | 2,_=>rfl
    | 3,_=>rfl
    | 4,_=>rfl
  have e1:decide (((j:Nat):Int)<(l.length:Int))=true:=decide_eq_true (by omega)
  have hjN:j<e.N.length:=by omega
  have hsj:strsF l j=.str (U8 (nsB (l[j]'hj))):=by rw [U8_nsB]; obtain ⟨s,h1,h2⟩:=nthC_str l j hj; rw [List.getElem?_eq_getElem hj] at h2; injection h2 with h2; rw [h2]; exact h1
  have hlt:(l.take (j+1)).map nsB=(l.take j).map nsB++[nsB (l[j]'hj)]:=by rw [List.take_add_one,List.getElem?_eq_getElem hj,Option.toList_some,List.map_append]; rfl
  have hNt:(e.N.take (j+1)).map tNum=(e.N.take j).map tNum++[tNum (e.N[j]'hjN)]:=by rw [List.take_add_one,List.getElem?_eq_getElem hjN,Option.toList_some,List.map_append]; rfl
  have hnum:=fn_qnum1 hx j hjN
  generalize (l[j]'hj)=nm at hsj hlt
  generalize (e.N[j]'hjN)=n at hNt hnum
  (repeat show _∧_;first|refine yr ?_|refine yt ?_|refine yf ?_|refine ya e1 ?_|refine yb e1 ?_|refine yo ?_)
  refine frc_atQ (y:=.str (U8 (nsB nm))) (by exact hsj) ?_
  (repeat show _∧_;first|refine yr ?_|refine yt ?_|refine yf ?_|refine yo ?_)
  refine call_same hnum [0] rfl (by (repeat first|exact trivial|refine ent1 ?_)) (by (repeat first|exact trivial|refine ent1 ?_)) (fun _ _=>trivial) ?_
  rintro y hs ⟨rfl,rfl⟩
  (repeat show _∧_;first|refine yr ?_|refine yt ?_|refine yf ?_|refine yo ?_)
  refine call_same (fn_qnum n) [] rfl (by (repeat first|exact trivial|refine ent1 ?_)) trivial (fun _ _=>trivial) ?_
  rintro y hs ⟨rfl,rfl⟩
  (repeat show _∧_;first|refine yr ?_|refine yt ?_|refine yf ?_|refine yo ?_)
  refine call_same (fn_qadd1 cs ((l.take j).map nsB) j c d hrow.raw (by omega) (by rw [List.length_map,List.length_take]; omega) h3 h4 (by omega) (tNum n) jc0 (nsB nm)) [5,6,7] rfl (by (repeat first|exact trivial|refine ent1 ?_)) ?_ (fun _ _=>trivial) ?_
  ·(repeat first|exact trivial|refine ent1 ?_)
   refine ⟨fun j hj=>eqJ_cs hrow.raw (fun _ _=>rfl) j,?_⟩
   (repeat first|exact trivial|refine ent1 ?_)
   exact ⟨fun j hj=>eqJ_cs (nmL_raw _) (fun _ _=>rfl) j,by (repeat first|exact trivial|refine ent1 ?_)⟩
  rintro y hs ⟨c2,d2,hc2,hd2,rfl,rfl⟩
  (repeat show _∧_;first|refine yr ?_|refine yt ?_|refine yf ?_|refine yo ?_)
  refine ⟨(j+1,some (cs++flat (jvS (tNum n) jc0),c2,d2)),[0,1,2,3,4,5,8,9],⟨⟨rfl,rfl,rfl⟩,?_⟩,⟨by omega,hj,hc2,hd2,?_⟩,by dsimp only; omega⟩
  ·dsimp only
   rw [hlt]
   (repeat first|exact trivial|refine ent1 ?_)
   refine ⟨fun j hj=>eqC_strs l hj,?_⟩
   (repeat first|exact trivial|refine ent1 ?_)
   refine ⟨fun j hj=>eqJ_csM (fun y hy=>(List.mem_append.1 hy).elim (hrow.raw y) (jv_raw _ _ y)) j,?_⟩
   (repeat first|exact trivial|refine ent1 ?_)
   exact ⟨fun j hj=>eqJ_csM (nmL_raw _) j,by (repeat first|exact trivial|refine ent1 ?_)⟩
  ·rw [hNt]
   exact hrow.snoc (TAt.leaf rfl rfl 0)
end Sx
end
section
namespace Sx
open Go.RowKit Sha Vi Js Ev Qj

def PrtA (W:World) (ms:List Nat) (es:List Ev) (y:SV) (hs:List (List Seg)):Prop :=
 ∃ W' ms',Later W ms W' ms'∧hs=[[.past W' ms']]∧y=if prtM es=0 then .tup [.c (.str (U8 (put 4 (rootJ es)))),.c (.int .i64 0)] else .tup [.c (.str []),.c (.int .i64 (prtM es))]
abbrev lo0:List Seg:=[.one (.w8 5#8),.one (.w64 0#64),.one (.str []),.one (.slc none 0 0),.one (.slc none 0 0)]
abbrev lo1 (i n c:Nat):List Seg:=[.one (.w8 5#8),.one (.w64 0#64),.one (.str []),.one (.sl i 0 0 n c),.one (.slc none 0 0)]
def lstJ (es:List Ev):JT:=.mk 5#8 0#64 [] (es.map evJ) []
set_option maxRecDepth 20000 in
set_option maxHeartbeats 32000000 in
theorem fn_qprint {W:World} {ms:List Nat} {a:Option Addr} {n c:Nat} {es:List Ev} (hT:Tabs W ms) (h:EvsAt W ms a n c es) (hp:prtM es=0→norm 4 (rootJ es)∧(put 4 (rootJ es)).length≤70368744177664):FnR Tryd.prog tds 24 1 [[.past W ms]] [.c (.slc a n c)] (fun _=>True) (PrtA W ms es):=by
 refine fn_of_bodyW tds_ok follows_ Tryd.func24 rfl (t:=.a (.c (.slc a n c))::anys (Tryd.f24.ntmps-1)) rfl (fun w r0 hr0 _=>?_)
 obtain ⟨x0,rfl⟩:=len1' hr0
 have hl:=h.len
 have hle:=h.le
 have hcap:=h.cap
 by_cases hn:2048<n
 ·have e0:decide ((2048:Int)<(n:Int))=true:=decide_eq_true (by omega)
  have hP:prtM es=7:=by unfold prtM; rw [if_pos (by omega)]
  (repeat show _∧_;first|refine yr ?_|refine yt ?_|refine yf ?_|refine ya e0 ?_|refine yb e0 ?_|refine yo ?_)
  exact FinW.of ⟨.tup [.c (.str []),.c (.int .i64 7)],_,⟨[0],⟨rfl,rfl,rfl⟩,by (repeat first|exact trivial|refine ent1 ?_)⟩,W,ms,Later.refl _ _,rfl,by rw [hP]; rfl⟩
 have e0:decide ((2048:Int)<(n:Int))=false:=decide_eq_false (by omega)
 have hP0:prtM es=prtF es 0#64:=by unfold prtM; rw [if_neg (by omega)]
 (repeat show _∧_;first|refine yr ?_|refine yt ?_|refine yf ?_|refine ya e0 ?_|refine yb e0 ?_|refine yo ?_)
 refine .inl ⟨Nat × BitVec 64 × Option (List SC × Nat) × World × List Nat,fun y=>match y with
  | (j,t,none,W',ms')=>⟨[.a (.c (.slc a n c)),.any,.a (.c (.str ([]))),.a (.c (.int .i64 (0))),.a (.c (.p 1 0 0)),.a (.c (.w64 (t))),.any,.any,.any,.any,.any,.any,.any,.any,.any,.a (.c (.slc a n c)),.a (.c (.int .i64 (n))),.a (.c (.int .i64 (((j:Nat):Int)))),.any,.any,.any,.any,.any,.any,.any,.any,.any,.any,.any,.any,.any,.any,.any,.any,.any,.any,.any,.any,.any,.any,.any,.any,.any,.any,.any,.any,.any,.any,.any,.any,.any,.any,.any,.any,.any,.any,.any,.any],[[.past W' ms'],lo0]⟩
  | (j,t,some (cs,cc),W',ms')=>⟨[.a (.c (.slc a n c)),.any,.a (.c (.str ([]))),.a (.c (.int .i64 (0))),.a (.c (.p 1 0 0)),.a (.c (.w64 (t))),.any,.any,.any,.any,.any,.any,.any,.any,.any,.a (.c (.slc a n c)),.a (.c (.int .i64 (n))),.a (.c (.int .i64 (((j:Nat):Int)))),.any,.any,.any,.any,.any,.any,.any,.any,.any,.any,.any,.any,.any,.any,.any,.any,.any,.any,.any,.any,.any,.any,.any,.any,.any,.any,.any,.any,.any,.any,.any,.any,.any,.any,.any,.any,.any,.any,.any,.any],[[.past W' ms'],lo1 2 j cc,[.row (scale cc (4+1)) (nthC cs)]]⟩,
  fun y=>match y with
  | (j,t,none,W',ms')=>j=0∧t=0#64∧Later W ms W' ms'
  | (j,t,some (cs,cc),W',ms')=>0<j∧j≤n∧j≤cc∧Later W ms W' ms'∧prtM es=prtF (es.drop j) t∧RowJ W' ms' 2 cs ((es.take j).map evJ),fun y=>n-y.1,⟨(0,0#64,none,W,ms),[0,1],⟨⟨rfl,rfl,rfl⟩,by (repeat first|exact trivial|refine ent1 ?_)⟩,rfl,rfl,Later.refl _ _⟩,fun y hy=>?_⟩
 rcases y with ⟨j,t,_|⟨cs,cc⟩,W',ms'⟩
 ·obtain ⟨rfl,rfl,hL'⟩:=hy
  dsimp only
  have hPj:prtM es=prtF (es.drop 0) 0#64:=by rw [List.drop_zero]; exact hP0
  by_cases hj:0<n
  rotate_left
  ·have e1:decide (((0:Nat):Int)<(n:Int))=false:=decide_eq_false (by omega)
   have hP:prtM es=0:=by rw [hPj,List.drop_eq_nil_of_le (by omega)]; rfl
   obtain rfl:es=[]:=List.eq_nil_of_length_eq_zero (by omega)
   (repeat show _∧_;first|refine yr ?_|refine yt ?_|refine yf ?_|refine ya e1 ?_|refine yb e1 ?_|refine yo ?_)
   refine call_same (fn_qtext v03B) [] rfl (by exact And.intro rfl trivial) trivial (fun _ _=>trivial) ?_
   rintro y hs ⟨rfl,rfl⟩
   (repeat show _∧_;first|refine yr ?_|refine yt ?_|refine yf ?_|refine yo ?_)
   refine call_same (fn_qadd0 (tText v03B) jc0 verB) [2] rfl (by (repeat first|exact trivial|refine ent1 ?_)) (by (repeat first|exact trivial|refine ent1 ?_)) (fun _ _=>trivial) ?_
   rintro y hs ⟨c3,d3,hc3,hd3,rfl,rfl⟩
   (repeat show _∧_;first|refine yr ?_|refine yt ?_|refine yf ?_|refine yo ?_)
   refine call_same (fn_qadd1 (flat (jvS (tText v03B) jc0)) [verB] 1 c3 d3 (jv_raw _ _) rfl rfl hc3 hd3 (by decide) (lstJ []) jc0 evsB) [2,3,4] rfl (by (repeat first|exact trivial|refine ent1 ?_)) ?_ (fun _ _=>trivial) ?_
   ·(repeat first|exact trivial|refine ent1 ?_)
    refine ⟨fun j hj=>eqJ_csM (jv_raw _ _) j,?_⟩
    (repeat first|exact trivial|refine ent1 ?_)
    exact ⟨fun j hj=>eqJ_csM (nmL_raw _) j,by (repeat first|exact trivial|refine ent1 ?_)⟩
   rintro y hs ⟨c4,d4,hc4,hd4,rfl,rfl⟩
   (repeat show _∧_;first|refine yr ?_|refine yt ?_|refine yf ?_|refine yo ?_)
   obtain ⟨hn4,hp4⟩:=hp hP
   refine call_lendU [5,6] 0 [] rfl rfl (by (repeat first|exact trivial|refine ent1 ?_)) NoP.nil (fun _ _=>trivial) (fun W9 ms9 α hL9 hI=>⟨[.agg (jvS (rootJ []) ⟨some ((α 5).add (0+0)),2,c4,some ((α 6).add (0+0)),2,d4⟩)],?_,(fn_print (d:=4) (by decide) (hT.later (hL'.trans hL9)) ?_ hn4 hp4).mono (Res':=fun y hs=>y=.tup [.c (.str (U8 (put 4 (rootJ [])))),.c (.int .i64 0)]∧hs.drop 1=[]) (fun x hs hr=>⟨hr.1,by rw [hr.2]; rfl⟩)⟩) (fun x hs hr=>by rw [hr.2]; exact NoP.nil) ?_
   ·(repeat first|exact trivial|refine ent1 ?_)
   ·have hlst:TAt W9 ms9 3 (lstJ []) jc0:=TAt.leaf (v:=lstJ []) rfl rfl 3
    have hroot:RowJ W9 ms9 3 (flat (jvS (tText v03B) jc0)++flat (jvS (lstJ []) jc0)) [tText v03B,lstJ []]:=(RowJ.nil.snoc (v:=tText v03B) (x:=jc0) (TAt.leaf rfl rfl 3)).snoc hlst
    have hfn:=strs_frz (l:=[verB,evsB].map U8) (F:=fun j=>memB j [5,6]) (fun j hj=>mpJ_raw (nmL_raw _ _ (nthJ_mem (l:=nmJ [verB,evsB]) hj))) (fun hf=>(hI 6 rfl hf).1) (n:=2) rfl hd4 (by decide)
    have hrawF:∀ y∈flat (jvS (tText v03B) jc0)++flat (jvS (lstJ []) jc0),y.raw=y:=fun y hy=>(List.mem_append.1 hy).elim (jv_raw _ _ y) (jv_raw _ _ y)
    exact ⟨hroot.frz2 (F:=fun j=>memB j [5,6]) (fun j hj=>by simp only [mpJ_raw (hrawF _ (nthJ_mem hj)),rzJ_raw (hrawF _ (nthJ_mem hj))]) (fun hf=>⟨(hI 5 rfl hf).1,fun hm=>(hI 5 rfl hf).2 hm rfl⟩) marks_off (n:=2) rfl hc4 (by decide),hfn⟩
   ·rintro x hs ⟨rfl,hdrop⟩
    rw [hdrop]
    (repeat show _∧_;first|refine yr ?_|refine yt ?_|refine yf ?_|refine yo ?_)
    exact FinW.of ⟨.tup [.c (.str (U8 (put 4 (rootJ [])))),.c (.int .i64 0)],_,⟨[0],⟨rfl,rfl,rfl⟩,by (repeat first|exact trivial|refine ent1 ?_)⟩,W',ms',hL',rfl,by rw [if_pos hP]⟩
  have e1:decide (((0:Nat):Int)<(n:Int))=true:=decide_eq_true (by omega)
  obtain ⟨A,rfl⟩:∃ A,a=some A:=by
   cases a with
   | none=>exact absurd (h.nil rfl) (by omega)
   | some A=>exact ⟨A,rfl⟩
  have hjl:0<es.length:=by omega
  obtain ⟨x,him,hxe⟩:=(h.later hL').elt A rfl 0 (es[0]'hjl) (List.getElem?_eq_getElem hjl)
  have hlast:decide (((0:Nat):Int)+1=(n:Int))=(es.drop (0+1)).isEmpty:=by
   by_cases hz:0+1=n
   ·rw [List.drop_eq_nil_of_le (by omega)]; exact decide_eq_true (by omega)
   ·rw [List.drop_eq_getElem_cons (show 0+1<es.length by omega)]; exact decide_eq_false (by omega)
  have htk:(es.take (0+1)).map evJ=(es.take 0).map evJ++[evJ (es[0]'hjl)]:=by rw [List.take_add_one,List.getElem?_eq_getElem hjl,Option.toList_some,List.map_append]; rfl
  rw [List.drop_eq_getElem_cons hjl,prtF,← hlast] at hPj
  generalize (es[0]'hjl)=e at him hxe hPj htk
  (repeat show _∧_;first|refine yr ?_|refine yt ?_|refine yf ?_|refine ya e1 ?_|refine yb e1 ?_|refine yo ?_)
  refine ⟨evS e x,⟨.past (i:=0) rfl (by exact him),rfl⟩,?_⟩
  (repeat show _∧_;first|refine yr ?_|refine yt ?_|refine yf ?_|refine yo ?_)
  refine call_past (fn_qvalue hxe) 0 [] rfl rfl (by (repeat first|exact trivial|refine ent1 ?_)) (by (repeat first|exact trivial|refine ent1 ?_)) (fun _ _=>trivial) (fun x hs hr=>?_) ?_
  ·rcases hr with ⟨_,_,rfl⟩|⟨_,xj,W5,ms5,hL5,_,_,rfl⟩
   ·exact ⟨W',ms',rfl,Later.refl _ _⟩
   ·exact ⟨W5,ms5,rfl,hL5⟩
  rintro y hs (⟨hc0,rfl,rfl⟩|⟨hc0,xj,W5,ms5,hL5,hxj,rfl,rfl⟩)
  ·have f0:decide (checkM e=0)=false:=decide_eq_false hc0
   have f1:decide (checkM e≠0)=true:=decide_eq_true hc0
   rw [if_pos hc0] at hPj
   (repeat show _∧_;first|refine yr ?_|refine yt ?_|refine yf ?_|refine ya f0 ?_|refine yb f0 ?_|refine ya f1 ?_|refine yb f1 ?_|refine yo ?_)
   exact FinW.of ⟨.tup [.c (.str []),.c (.int .i64 (checkM e))],_,⟨[0],⟨rfl,rfl,rfl⟩,by (repeat first|exact trivial|refine ent1 ?_)⟩,W',ms',hL',rfl,by rw [hPj,if_neg hc0]⟩
  rw [if_neg (not_not_intro hc0)] at hPj
  (repeat show _∧_;first|refine yr ?_|refine yt ?_|refine yf ?_|refine yo ?_)
  refine call_same (fn_qfoll (W:=W5) (ms:=ms5) (x:=x) (e:=e) 0#64 (decide (((0:Nat):Int)+1=(n:Int)))) [0] rfl (by (repeat first|exact trivial|refine ent1 ?_)) (by (repeat first|exact trivial|refine ent1 ?_)) (fun _ _=>trivial) ?_
  rintro y hs ⟨rfl,rfl⟩
  by_cases hf:follM e 0#64 (decide (((0:Nat):Int)+1=(n:Int)))=0
  rotate_left
  ·have f1:decide (follM e 0#64 (decide (((0:Nat):Int)+1=(n:Int)))≠0)=true:=decide_eq_true hf
   rw [if_pos hf] at hPj
   (repeat show _∧_;first|refine yr ?_|refine yt ?_|refine yf ?_|refine ya f1 ?_|refine yb f1 ?_|refine yo ?_)
   exact FinW.of ⟨.tup [.c (.str []),.c (.int .i64 (follM e 0#64 (decide (((0:Nat):Int)+1=(n:Int)))))],_,⟨[0],⟨rfl,rfl,rfl⟩,by (repeat first|exact trivial|refine ent1 ?_)⟩,W5,ms5,hL'.trans hL5,rfl,by rw [hPj,if_neg hf]⟩
  have f1:decide (follM e 0#64 (decide (((0:Nat):Int)+1=(n:Int)))≠0)=false:=decide_eq_false (not_not_intro hf)
  rw [if_neg (not_not_intro hf)] at hPj
  (repeat show _∧_;first|refine yr ?_|refine yt ?_|refine yf ?_|refine ya f1 ?_|refine yb f1 ?_|refine yo ?_)
  refine And.intro (show 0+5≤5 by decide) ?_
  (repeat show _∧_;first|refine yr ?_|refine yt ?_|refine yf ?_|refine yo ?_)
  intro c2 hc2
  (repeat show _∧_;first|refine yr ?_|refine yt ?_|refine yf ?_|refine yo ?_)
  refine ⟨(1,e.t,some (flat (jvS (evJ e) xj),c2),W5,ms5),[0,1,5],⟨⟨rfl,rfl,rfl⟩,?_⟩,⟨Nat.zero_lt_one,hj,hc2,hL'.trans hL5,hPj,by rw [htk]; exact RowJ.nil.snoc hxj⟩,by dsimp only; omega⟩
  dsimp only
  (repeat first|exact trivial|refine ent1 ?_)
  exact ⟨fun j hj=>eqJ_cs (jv_raw _ _) (newJ_cs (m:=1) (sz:=4) rfl fun j hj=>updJ_new hj) j,by (repeat first|exact trivial|refine ent1 ?_)⟩
 ·obtain ⟨hj0,hjn,hjc,hL',hPj,hrow⟩:=hy
  dsimp only
  by_cases hj:j<n
  rotate_left
  ·have e1:decide (((j:Nat):Int)<(n:Int))=false:=decide_eq_false (by omega)
   have hP:prtM es=0:=by rw [hPj,List.drop_eq_nil_of_le (by omega)]; rfl
   obtain rfl:j=n:=by omega
   rw [List.take_of_length_le (by omega)] at hrow
   subst hl
   (repeat show _∧_;first|refine yr ?_|refine yt ?_|refine yf ?_|refine ya e1 ?_|refine yb e1 ?_|refine yo ?_)
   refine call_same (fn_qtext v03B) [] rfl (by exact And.intro rfl trivial) trivial (fun _ _=>trivial) ?_
   rintro y hs ⟨rfl,rfl⟩
   (repeat show _∧_;first|refine yr ?_|refine yt ?_|refine yf ?_|refine yo ?_)
   refine call_same (fn_qadd0 (tText v03B) jc0 verB) [3] rfl (by (repeat first|exact trivial|refine ent1 ?_)) (by (repeat first|exact trivial|refine ent1 ?_)) (fun _ _=>trivial) ?_
   rintro y hs ⟨c3,d3,hc3,hd3,rfl,rfl⟩
   (repeat show _∧_;first|refine yr ?_|refine yt ?_|refine yf ?_|refine yo ?_)
   refine call_same (fn_qadd3 (flat (jvS (tText v03B) jc0)) [verB] 1 c3 d3 (jv_raw _ _) rfl rfl hc3 hd3 (by decide) es.length cc (nthC cs) (scale cc (4+1)) (fun q j=>eqJ_cs hrow.raw (fun _ _=>rfl) j) evsB) [3,4,5,2] rfl (by (repeat first|exact trivial|refine ent1 ?_)) ?_ (fun _ _=>trivial) ?_
   ·(repeat first|exact trivial|refine ent1 ?_)
    refine ⟨fun j hj=>eqJ_csM (jv_raw _ _) j,?_⟩
    (repeat first|exact trivial|refine ent1 ?_)
    refine ⟨fun j hj=>eqJ_csM (nmL_raw _) j,?_⟩
    (repeat first|exact trivial|refine ent1 ?_)
    exact ⟨fun j hj=>eqJ_cs hrow.raw (fun _ _=>rfl) j,by (repeat first|exact trivial|refine ent1 ?_)⟩
   rintro y hs ⟨c4,d4,hc4,hd4,rfl,rfl⟩
   (repeat show _∧_;first|refine yr ?_|refine yt ?_|refine yf ?_|refine yo ?_)
   obtain ⟨hn4,hp4⟩:=hp hP
   refine call_lendU [6,7,2] 0 [] rfl rfl (by (repeat first|exact trivial|refine ent1 ?_)) NoP.nil (fun _ _=>trivial) (fun W9 ms9 α hL9 hI=>⟨[.agg (jvS (rootJ es) ⟨some ((α 6).add (0+0)),2,c4,some ((α 7).add (0+0)),2,d4⟩)],?_,(fn_print (d:=4) (by decide) (hT.later (hL'.trans hL9)) ?_ hn4 hp4).mono (Res':=fun y hs=>y=.tup [.c (.str (U8 (put 4 (rootJ es)))),.c (.int .i64 0)]∧hs.drop 1=[]) (fun x hs hr=>⟨hr.1,by rw [hr.2]; rfl⟩)⟩) (fun x hs hr=>by rw [hr.2]; exact NoP.nil) ?_
   ·(repeat first|exact trivial|refine ent1 ?_)
   ·have hlst:TAt W9 ms9 3 (lstJ es) ⟨some ((α 2).add (0+0)),es.length,cc,none,0,0⟩:=⟨(hrow.later hL9).frz2 (F:=fun j=>memB j [6,7,2]) (fun j hj=>by simp only [mpJ_raw (hrow.raw _ (nthJ_mem hj)),rzJ_raw (hrow.raw _ (nthJ_mem hj))]) (fun hf=>⟨(hI 2 rfl hf).1,fun hm=>(hI 2 rfl hf).2 hm rfl⟩) marks_off (n:=es.length) (by simp) hjc (by omega),(TAt.leaf (W:=W9) (ms:=ms9) (v:=lstJ []) rfl rfl 0).ns⟩
    have hroot:RowJ W9 ms9 3 (flat (jvS (tText v03B) jc0)++flat (jvS (lstJ es) ⟨some ((α 2).add (0+0)),es.length,cc,none,0,0⟩)) [tText v03B,lstJ es]:=(RowJ.nil.snoc (v:=tText v03B) (x:=jc0) (TAt.leaf rfl rfl 3)).snoc hlst
    have hfn:=strs_frz (l:=[verB,evsB].map U8) (F:=fun j=>memB j [6,7,2]) (fun j hj=>mpJ_raw (nmL_raw _ _ (nthJ_mem (l:=nmJ [verB,evsB]) hj))) (fun hf=>(hI 7 rfl hf).1) (n:=2) rfl hd4 (by decide)
    refine ⟨hroot.frz2 (F:=fun j=>memB j [6,7,2]) (fun j hj=>rz_app (g:=bk 6 [3,4,5,2]) (D:=[.w8 5#8,.w64 0#64,.str [],.sl 3 0 0 es.length cc,.slc none 0 0]) (E:=flat (jvS (lstJ es) ⟨some ((α 2).add (0+0)),es.length,cc,none,0,0⟩)) (jv_raw (tText v03B) jc0) rfl (fun i hi=>?_) j hj) (fun hf=>⟨(hI 6 rfl hf).1,fun hm=>(hI 6 rfl hf).2 hm rfl⟩) marks_off (n:=2) rfl hc4 (by decide),hfn⟩
    match i,hi with
    | 0,_=>rfl
    | 1,_=>rfl
    | 2,_=>rfl
    | 3,_=>rfl
    | 4,_=>rfl
   ·rintro x hs ⟨rfl,hdrop⟩
    rw [hdrop]
    (repeat show _∧_;first|refine yr ?_|refine yt ?_|refine yf ?_|refine yo ?_)
    exact FinW.of ⟨.tup [.c (.str (U8 (put 4 (rootJ es)))),.c (.int .i64 0)],_,⟨[0],⟨rfl,rfl,rfl⟩,by (repeat first|exact trivial|refine ent1 ?_)⟩,W',ms',hL',rfl,by rw [if_pos hP]⟩
  have e1:decide (((j:Nat):Int)<(n:Int))=true:=decide_eq_true (by omega)
  obtain ⟨A,rfl⟩:∃ A,a=some A:=by
   cases a with
   | none=>exact absurd (h.nil rfl) (by omega)
   | some A=>exact ⟨A,rfl⟩
  have hjl:j<es.length:=by omega
  obtain ⟨x,him,hxe⟩:=(h.later hL').elt A rfl j (es[j]'hjl) (List.getElem?_eq_getElem hjl)
  have hlast:decide (((j:Nat):Int)+1=(n:Int))=(es.drop (j+1)).isEmpty:=by
   by_cases hz:j+1=n
   ·rw [List.drop_eq_nil_of_le (by omega)]; exact decide_eq_true (by omega)
   ·rw [List.drop_eq_getElem_cons (show j+1<es.length by omega)]; exact decide_eq_false (by omega)
  have htk:(es.take (j+1)).map evJ=(es.take j).map evJ++[evJ (es[j]'hjl)]:=by rw [List.take_add_one,List.getElem?_eq_getElem hjl,Option.toList_some,List.map_append]; rfl
  rw [List.drop_eq_getElem_cons hjl,prtF,← hlast] at hPj
  generalize (es[j]'hjl)=e at him hxe hPj htk
  (repeat show _∧_;first|refine yr ?_|refine yt ?_|refine yf ?_|refine ya e1 ?_|refine yb e1 ?_|refine yo ?_)
  refine ⟨evS e x,⟨.past (i:=0) rfl (by exact him),rfl⟩,?_⟩
  (repeat show _∧_;first|refine yr ?_|refine yt ?_|refine yf ?_|refine yo ?_)
  refine call_past (fn_qvalue hxe) 0 [] rfl rfl (by (repeat first|exact trivial|refine ent1 ?_)) (by (repeat first|exact trivial|refine ent1 ?_)) (fun _ _=>trivial) (fun x hs hr=>?_) ?_
  ·rcases hr with ⟨_,_,rfl⟩|⟨_,xj,W5,ms5,hL5,_,_,rfl⟩
   ·exact ⟨W',ms',rfl,Later.refl _ _⟩
   ·exact ⟨W5,ms5,rfl,hL5⟩
  rintro y hs (⟨hc0,rfl,rfl⟩|⟨hc0,xj,W5,ms5,hL5,hxj,rfl,rfl⟩)
  ·have f0:decide (checkM e=0)=false:=decide_eq_false hc0
   have f1:decide (checkM e≠0)=true:=decide_eq_true hc0
   rw [if_pos hc0] at hPj
   (repeat show _∧_;first|refine yr ?_|refine yt ?_|refine yf ?_|refine ya f0 ?_|refine yb f0 ?_|refine ya f1 ?_|refine yb f1 ?_|refine yo ?_)
   exact FinW.of ⟨.tup [.c (.str []),.c (.int .i64 (checkM e))],_,⟨[0],⟨rfl,rfl,rfl⟩,by (repeat first|exact trivial|refine ent1 ?_)⟩,W',ms',hL',rfl,by rw [hPj,if_neg hc0]⟩
  rw [if_neg (not_not_intro hc0)] at hPj
  (repeat show _∧_;first|refine yr ?_|refine yt ?_|refine yf ?_|refine yo ?_)
  refine call_same (fn_qfoll (W:=W5) (ms:=ms5) (x:=x) (e:=e) t (decide (((j:Nat):Int)+1=(n:Int)))) [0] rfl (by (repeat first|exact trivial|refine ent1 ?_)) (by (repeat first|exact trivial|refine ent1 ?_)) (fun _ _=>trivial) ?_
  rintro y hs ⟨rfl,rfl⟩
  by_cases hf:follM e t (decide (((j:Nat):Int)+1=(n:Int)))=0
  rotate_left
  ·have f1:decide (follM e t (decide (((j:Nat):Int)+1=(n:Int)))≠0)=true:=decide_eq_true hf
   rw [if_pos hf] at hPj
   (repeat show _∧_;first|refine yr ?_|refine yt ?_|refine yf ?_|refine ya f1 ?_|refine yb f1 ?_|refine yo ?_)
   exact FinW.of ⟨.tup [.c (.str []),.c (.int .i64 (follM e t (decide (((j:Nat):Int)+1=(n:Int)))))],_,⟨[0],⟨rfl,rfl,rfl⟩,by (repeat first|exact trivial|refine ent1 ?_)⟩,W5,ms5,hL'.trans hL5,rfl,by rw [hPj,if_neg hf]⟩
  have f1:decide (follM e t (decide (((j:Nat):Int)+1=(n:Int)))≠0)=false:=decide_eq_false (not_not_intro hf)
  rw [if_neg (not_not_intro hf)] at hPj
  (repeat show _∧_;first|refine yr ?_|refine yt ?_|refine yf ?_|refine ya f1 ?_|refine yb f1 ?_|refine yo ?_)
  refine And.intro (show 0+5≤5 by decide) ?_
  refine And.intro (show 0+scale 1 (4+1)≤5 by decide) ?_
  refine And.intro ⟨hjc,by rw [sc5]; omega,show (j+1)*80≤140737488355328 by omega⟩ ?_
  intro c2 hc2
  (repeat show _∧_;first|refine yr ?_|refine yt ?_|refine yf ?_|refine yo ?_)
  have hrl:cs.length=j*5:=by have:=hrow.len; rw [List.length_map,List.length_take] at this; omega
  have hrw:RowJ W5 ms5 2 (cs++flat (jvS (evJ e) xj)) ((es.take (j+1)).map evJ):=by rw [htk]; exact (hrow.later hL5).snoc hxj
  refine ⟨(j+1,e.t,some (cs++flat (jvS (evJ e) xj),c2),W5,ms5),[0,1,6],⟨⟨rfl,rfl,rfl⟩,?_⟩,⟨by omega,hj,hc2,hL'.trans hL5,hPj,hrw⟩,by dsimp only; omega⟩
  dsimp only
  (repeat first|exact trivial|refine ent1 ?_)
  exact ⟨fun j hj=>eqJ_cs hrw.raw (appJ_cs (m:=1) (sz:=4) (by rw [hrl]) (fun _ _=>rfl) rfl fun j hj=>updJ_new hj) j,by (repeat first|exact trivial|refine ent1 ?_)⟩
end Sx
end
section
namespace Vi
open Sha
def failM (l:Bs) (e x:Int):Bs × Int:=if x=0∨e≠0 then (l,e) else ([],x)
def nextM (l:Bs) (e:Int):(BitVec 64 × Nat × Bool) × Bs × Int :=
 if e≠0 then ((0#64,0,false),l,e) else
 if (takeM l).2.2≠0 then ((0#64,0,false),[],(takeM l).2.2) else (((takeM l).1,(takeM l).2.1,true),l.drop (takeM l).2.1,0)
def bytesM (l:Bs) (e many:Int):Bs × Bs × Int :=
 if e≠0 then ([],l,e) else if many<0∨(l.length:Int)<many then ([],[],3) else (l.take many.toNat,l.drop many.toNat,0)
end Vi
namespace Sx
open Sha Vi

end Sx
end
section
namespace Vi
open Sha
def endM (l:Bs) (e:Int):Bs × Int:=if 0<l.length then failM l e 24 else (l,e)
end Vi
namespace Sx
open Sha Vi

end Sx
end
section
namespace Vi
open Sha
def leastM (l:Bs) (e:Int):BitVec 64 × Bs × Int:=match nextM l e with
 | ((n,k,b),l',e')=>if b=false then (0#64,l',e') else if k≠lenN n then (0#64,failM l' e' 4) else (n,l',e')
end Vi
namespace Sx
open Go.RowKit Sha Vi Ev

end Sx
end
section
namespace Ev
open Vi Sha
def numsR:Nat→Bs→Int→List (BitVec 64) × Bs × Int
 | 0,l,e=>([],l,e)
 | k+1,l,e=>((leastM l e).1::(numsR k (leastM l e).2.1 (leastM l e).2.2).1,(numsR k (leastM l e).2.1 (leastM l e).2.2).2)
def failIf (c:Bool) (x:Int) (p:Bs × Int):Bs × Int:=if c=true then failM p.1 p.2 x else p
abbrev kindL (k:BitVec 64):BitVec 8:=BitVec.setWidth 8 (if 255#64<k then 255#64 else k)
abbrev manyL (m:BitVec 64):Int:=((if 20#64<m then 20#64 else m).toNat:Int)
def data1 (m:BitVec 64) (q:Bs × Int):Bs × Bs × Int:=bytesM q.1 q.2 (manyL m)
def take3 (kk:BitVec 8) (t:BitVec 64) (N:List (BitVec 64)) (p:Bs × Int):Ev × Bs × Int :=
 if evData kk=true then (⟨kk,t,N,(data1 (leastM p.1 p.2).1 (failIf (decide (20#64<(leastM p.1 p.2).1)) 4 (leastM p.1 p.2).2)).1⟩,(data1 (leastM p.1 p.2).1 (failIf (decide (20#64<(leastM p.1 p.2).1)) 4 (leastM p.1 p.2).2)).2)
 else (⟨kk,t,N,[]⟩,p)
def take2 (kk:BitVec 8) (t:BitVec 64) (q:Bs × Int):Ev × Bs × Int:=take3 kk t (numsR (evNames kk).length q.1 q.2).1 (numsR (evNames kk).length q.1 q.2).2
def take1 (kk:BitVec 8) (last:BitVec 64) (p:Bs × Int):Ev × Bs × Int :=
 take2 kk (last+(leastM p.1 p.2).1) (failIf (decide (1125899906842624#64<last+(leastM p.1 p.2).1)) 21 (leastM p.1 p.2).2)
def takeE (l:Bs) (e:Int) (last:BitVec 64):Ev × Bs × Int :=
 if (leastM l e).2.2≠0 then (⟨0#8,0#64,[],[]⟩,(leastM l e).2) else take1 (kindL (leastM l e).1) last (failIf (!evOk (kindL (leastM l e).1)) 5 (leastM l e).2)
theorem take1_eq {kk:BitVec 8} {last n:BitVec 64} {l l':Bs} {e e':Int} (h:leastM l e=(n,l',e')):take1 kk last (l,e)=take2 kk (last+n) (failIf (decide (1125899906842624#64<last+n)) 21 (l',e')):=by
 unfold take1; rw [h]
theorem take3_no {kk:BitVec 8} {t:BitVec 64} {N:List (BitVec 64)} {p:Bs × Int} (h:evData kk=false):take3 kk t N p=(⟨kk,t,N,[]⟩,p):=by
 unfold take3; rw [h,if_neg (by decide)]
theorem take3_ok {kk:BitVec 8} {t m:BitVec 64} {N:List (BitVec 64)} {l l':Bs} {e e':Int} (h:evData kk=true) (hm:leastM l e=(m,l',e')) {D l2:Bs} {e2:Int} (hd:data1 m (failIf (decide (20#64<m)) 4 (l',e'))=(D,l2,e2)):take3 kk t N (l,e)=(⟨kk,t,N,D⟩,l2,e2):=by
 unfold take3; rw [h,if_pos rfl]; simp only [hm]; rw [hd]
end Ev
namespace Sx
open Go.RowKit Sha Vi Ev

end Sx
end
section
namespace Ev
open Vi Sha
def evsR : Nat → BitVec 64 → Bs → Int → List Ev × Bs × Int
  | 0, _, l, e => ([], l, e)
  | k + 1, last, l, e => if e ≠ 0 then ([], l, e) else
    ((takeE l e last).1 :: (evsR k (takeE l e last).1.t (failIf (decide ((takeE l e last).1.k = 19#8) && decide (k ≠ 0)) 10 (takeE l e last).2).1 (failIf (decide ((takeE l e last).1.k = 19#8) && decide (k ≠ 0)) 10 (takeE l e last).2).2).1,
     (evsR k (takeE l e last).1.t (failIf (decide ((takeE l e last).1.k = 19#8) && decide (k ≠ 0)) 10 (takeE l e last).2).1 (failIf (decide ((takeE l e last).1.k = 19#8) && decide (k ≠ 0)) 10 (takeE l e last).2).2).2)
def finD (r:List Ev × Bs × Int):List Ev × Int:=if (endM r.2.1 r.2.2).2≠0 then ([],(endM r.2.1 r.2.2).2) else (r.1,0)
def dec3 (m:BitVec 64) (q:Bs × Int):List Ev × Int:=finD (evsR m.toNat 0#64 q.1 q.2)
def dec2 (p:Bs × Int):List Ev × Int:=dec3 (leastM p.1 p.2).1 (failIf (decide (2048#64<(leastM p.1 p.2).1)) 7 (leastM p.1 p.2).2)
def decM (b:Bs):List Ev × Int:=dec2 (failIf (decide ((bytesM b 0 4).2.2=0) && decide (U8 (bytesM b 0 4).1≠[66,73,78,49])) 4 (bytesM b 0 4).2)
theorem evsR_step {k:Nat} {last:BitVec 64} {l l1 l2:Bs} {e1 e2:Int} {ev:Ev} (h:takeE l 0 last=(ev,l1,e1)) (hf:failIf (decide (ev.k=19#8) && decide (k≠0)) 10 (l1,e1)=(l2,e2)) :
  evsR (k+1) last l 0=(ev::(evsR k ev.t l2 e2).1,(evsR k ev.t l2 e2).2):=by
 rw [evsR,if_neg (by decide),h]; dsimp only; rw [hf]
end Ev
namespace Sx
open Go.RowKit Sha Vi Ev

theorem EvsAt.nul {W:World} {ms:List Nat}:EvsAt W ms none 0 0 []:=⟨rfl,Nat.le_refl _,by decide,fun _=>rfl,fun A h=>by cases h⟩
theorem rz_raw {F:Nat→Bool} {α:Nat→Addr} {x:SC} (h:x.raw=x):(x.rz F α).raw=x:=by
 cases x <;> simp only [SC.raw] at h <;> first|rfl|cases h
theorem nthC_get {l:List SC} {j:Nat} (h:j<l.length):l[j]?=some (nthC l j):=by
 obtain ⟨x,hx⟩:∃ x,l[j]?=some x:=⟨_,List.getElem?_eq_getElem h⟩
 rw [hx,nthC_get? hx]
theorem RowAt.frz {W0 W:World} {ms0 ms:List Nat} {A:Addr} {F:Nat→Bool} {α:Nat→Addr} {n c:Nat} {cs:List SC} {es:List Ev} (k:RowAt W0 ms0 cs es) (hL:Later W0 ms0 W ms)
  (h:flat [.row (scale c (3+1)) (nthC cs)]≠[]→ImAt W ms A (((flat [.row (scale c (3+1)) (nthC cs)]).map (SC.rz F α)).map SC.raw)) (hn:es.length=n) (hc:n≤c) (hcap:n≤9223372036854775807):EvsAt W ms (some (A.add (0+0))) n c es:=by
 refine ⟨hn,hc,hcap,(fun e=>by cases e),fun B hB j e he=>?_⟩
 injection hB with hB
 subst hB
 obtain ⟨x,h1,h2⟩:=k.elt j e he
 have hj:j<n:=by rw [← hn]; exact (List.getElem?_eq_some_iff.1 he).1
 have hne:flat [.row (scale c (3+1)) (nthC cs)]≠[]:=by
  intro e
  have:=congrArg List.length e
  simp [flat,sc4] at this
  omega
 refine ⟨x,(((h hne).part (0+0) (m:=((flat [.row (scale c (3+1)) (nthC cs)]).map (SC.rz F α)).map SC.raw) (fun j x hx=>by simpa using hx)).part (j*4) fun i y hy=>?_),h2.later hL⟩
 have hi:i<4:=(List.getElem?_eq_some_iff.1 hy).1
 have hcs:=h1 i y hy
 have hlen:=k.len
 have hjn:j*4+i<scale c (3+1):=by rw [sc4]; omega
 rw [List.getElem?_map,List.getElem?_map]
 simp only [flat,List.append_nil,List.getElem?_map,List.getElem?_range hjn,Option.map_some]
 have hraw:=k.raw y (List.mem_of_getElem? hcs)
 rw [nthC_get? hcs,rz_raw hraw]
end Sx
end
section
namespace Qj
open Sha Vi Js Ev
def preE (d:List Ev):List Ev ⊕ Int→List Ev ⊕ Int
 | .inl es=>.inl (d++es)
 | .inr e=>.inr e
theorem evsF_step {x:JT} {l:List JT} {t:BitVec 64} {e:Ev} (d:List Ev) (h:evOf x=.inl e) (hf:follM e t l.isEmpty=0):preE d (evsF (x::l) t)=preE (d++[e]) (evsF l e.t):=by
 rw [evsF,h]
 dsimp only
 rw [if_pos hf]
 cases evsF l e.t with
 | inl es=>simp [preE]
 | inr c=>rfl
theorem evsF_bad {x:JT} {l:List JT} {t:BitVec 64} {c:Int} (d:List Ev) (h:evOf x=.inr c):preE d (evsF (x::l) t)=.inr c:=by
 rw [evsF,h]
 rfl
theorem evsF_fol {x:JT} {l:List JT} {t:BitVec 64} {e:Ev} (d:List Ev) (h:evOf x=.inl e) (hf:follM e t l.isEmpty≠0):preE d (evsF (x::l) t)=.inr (follM e t l.isEmpty):=by
 rw [evsF,h]
 dsimp only
 rw [if_neg hf]
 rfl
theorem evsF_pre (l:List JT) (t:BitVec 64):preE [] (evsF l t)=evsF l t:=by
 cases evsF l t <;> rfl
theorem parse_no {s:Bs} {v:JT} (hp:parse s=.ok v []) (h:hasJ v 2=false∨idxN verB v.ns=none∨memJ v evsB 5#8=none):parseM s=.inr 4:=by
 unfold parseM
 rw [hp]
 dsimp only
 rcases h with h|h|h
 ·split
  ·rw [if_pos h]
  ·rfl
 ·rw [h]
 ·rw [h]
  split
  ·rename_i h2; cases h2
  ·rfl
end Qj
namespace Sx
open Go.RowKit Sha Vi Js Ev Qj

def PrsA (W:World) (ms:List Nat) (o:List Ev ⊕ Int) (y:SV) (hs:List (List Seg)):Prop:=match o with
 | .inr e=>e≠0∧∃ W' ms',Later W ms W' ms'∧y=.tup [.c (.slc none 0 0),.c (.int .i64 e)]∧hs=[[.past W' ms']]
 | .inl es=>∃ a n c W' ms',Later W ms W' ms'∧EvsAt W' ms' a n c es∧y=.tup [.c (.slc a n c),.c (.int .i64 0)]∧hs=[[.past W' ms']]
set_option maxRecDepth 20000 in
set_option maxHeartbeats 32000000 in
theorem fn_qparse {W:World} {ms:List Nat} (hT:Tabs W ms) (s:Bs) (hs0:s.length≤4611686018427387904) (hSh:∀ v y,parse s=.ok v []→memJ v evsB 5#8=some y→∀ z∈y.l,Shrt 4194304 2 z):FnR Tryd.prog tds 25 1 [[.past W ms]] [.c (.str (U8 s))] (fun _=>True) (PrsA W ms (parseM s)):=by
 refine fn_of_bodyW tds_ok follows_ Tryd.func25 rfl (t:=.a (.c (.str (U8 s)))::anys (Tryd.f25.ntmps-1)) rfl (fun w r0 hr0 _=>?_)
 obtain ⟨x0,rfl⟩:=len1' hr0
 (repeat show _∧_;first|refine yr ?_|refine yt ?_|refine yf ?_|refine yo ?_)
 refine call_past (fn_parse hT s hs0) 0 [] rfl rfl (by (repeat first|exact trivial|refine ent1 ?_)) (by (repeat first|exact trivial|refine ent1 ?_)) (fun _ _=>trivial) (fun x hs hr=>?_) ?_
 ·rcases hr with ⟨_,_,W5,ms5,_,hL5,_,_,rfl⟩|⟨_,_,W5,ms5,_,_,_,hL5,_,rfl⟩
  ·exact ⟨W5,ms5,rfl,hL5⟩
  ·exact ⟨W5,ms5,rfl,hL5⟩
 rintro y hs (⟨v,x,W1,ms1,hp,hL1,hx,rfl,rfl⟩|⟨e,k,W1,ms1,hp,he,hk,hL1,rfl,rfl⟩)
 rotate_left
 ·have hM:parseM s=.inr e:=by unfold parseM; rw [hp]
  have k1:decide (e≠0)=true:=decide_eq_true he
  rw [hM]
  (repeat show _∧_;first|refine yr ?_|refine yt ?_|refine yf ?_|refine yt ?_ (by first|decide|(rw[k1];decide))|refine yf ?_ (by first|decide|(rw[k1];decide))|refine yo ?_)
  (repeat show _∧_;first|refine yr ?_|refine yt ?_|refine yf ?_|refine yo ?_)
  exact FinW.of ⟨.tup [.c (.slc none 0 0),.c (.int .i64 e)],_,⟨[0],⟨rfl,rfl,rfl⟩,by (repeat first|exact trivial|refine ent1 ?_)⟩,he,W1,ms1,hL1,rfl,rfl⟩
 have hxl:=hx.len
 (repeat show _∧_;first|refine yr ?_|refine yt ?_|refine yf ?_|refine yo ?_)
 (repeat show _∧_;first|refine yr ?_|refine yt ?_|refine yf ?_|refine yo ?_)
 refine call_same (fn_index hx.ns verB) [0] rfl (by (repeat first|exact trivial|refine ent1 ?_)) (by (repeat first|exact trivial|refine ent1 ?_)) (fun _ _=>trivial) ?_
 rintro y hs ⟨rfl,rfl⟩
 (repeat show _∧_;first|refine yr ?_|refine yt ?_|refine yf ?_|refine yo ?_)
 refine call_same (fn_qmember hx evsB 5#8) [0] rfl (by (repeat first|exact trivial|refine ent1 ?_)) (by (repeat first|exact trivial|refine ent1 ?_)) (fun _ _=>trivial) ?_
 intro y hs h
 obtain ⟨rfl,v1,x1,b1,rfl,h1,h1'⟩:=h.gen
 clear h
 (repeat show _∧_;first|refine yr ?_|refine yt ?_|refine yf ?_|refine yo ?_)
 refine call_same (fn_qhas hx 2) [0] rfl (by (repeat first|exact trivial|refine ent1 ?_)) (by (repeat first|exact trivial|refine ent1 ?_)) (fun _ _=>trivial) ?_
 rintro y hs ⟨rfl,rfl⟩
 cases hh:hasJ v 2
 ·rw [parse_no hp (.inl hh)]
  (repeat show _∧_;first|refine yr ?_|refine yt ?_|refine yf ?_|refine yo ?_)
  (repeat show _∧_;first|refine yr ?_|refine yt ?_|refine yf ?_|refine yo ?_)
  exact FinW.of ⟨.tup [.c (.slc none 0 0),.c (.int .i64 4)],_,⟨[0],⟨rfl,rfl,rfl⟩,by (repeat first|exact trivial|refine ent1 ?_)⟩,by decide,W1,ms1,hL1,rfl,rfl⟩
 cases hI:idxN verB v.ns with
 | none =>
  rw [parse_no hp (.inr (.inl hI))]
  have e0:decide (idxI none<0)=true:=rfl
  (repeat show _∧_;first|refine yr ?_|refine yt ?_|refine yf ?_|refine yt ?_ (by first|decide|(rw[e0];decide))|refine yf ?_ (by first|decide|(rw[e0];decide))|refine yo ?_)
  (repeat show _∧_;first|refine yr ?_|refine yt ?_|refine yf ?_|refine yo ?_)
  exact FinW.of ⟨.tup [.c (.slc none 0 0),.c (.int .i64 4)],_,⟨[0],⟨rfl,rfl,rfl⟩,by (repeat first|exact trivial|refine ent1 ?_)⟩,by decide,W1,ms1,hL1,rfl,rfl⟩
 | some i =>
 rw [show idxI (some i)=(i:Int) from rfl]
 have e0:decide ((i:Int)<0)=false:=decide_eq_false (by omega)
 cases b1
 ·rw [parse_no hp (.inr (.inr (h1' rfl)))]
  (repeat show _∧_;first|refine yr ?_|refine yt ?_|refine yf ?_|refine yt ?_ (by first|decide|(rw[e0];decide))|refine yf ?_ (by first|decide|(rw[e0];decide))|refine yo ?_)
  (repeat show _∧_;first|refine yr ?_|refine yt ?_|refine yf ?_|refine yo ?_)
  exact FinW.of ⟨.tup [.c (.slc none 0 0),.c (.int .i64 4)],_,⟨[0],⟨rfl,rfl,rfl⟩,by (repeat first|exact trivial|refine ent1 ?_)⟩,by decide,W1,ms1,hL1,rfl,rfl⟩
 obtain ⟨m1,t1⟩:=h1 rfl
 have hin:=idxN_lt hI
 have hvl:v.l.length=2∧v.ns.length=2:=by
  unfold hasJ at hh
  simp only [Bool.and_eq_true,decide_eq_true_eq] at hh
  exact ⟨hh.2.2,hh.2.1⟩
 have hi:i<v.l.length:=by omega
 obtain ⟨A,xv,hA,him,y1,y2⟩:=hx.elt hi
 have hM:parseM s=if v.l[i].k=4#8∧v.l[i].s=v03B then if 2048<v1.l.length then .inr 7 else evsF v1.l 0#64 else .inr 12:=by
  unfold parseM
  rw [hp]
  dsimp only
  rw [hI,m1]
  dsimp only
  rw [hh,if_neg (by decide),List.getElem?_eq_getElem hi]
 have hSh2:=hSh v v1 hp m1
 obtain ⟨xa,xm,xc,xb,xp,xq⟩:=x
 dsimp only at hA him hxl
 subst hA
 generalize v.l[i]=u at y1 y2 hM
 (repeat show _∧_;first|refine yr ?_|refine yt ?_|refine yf ?_|refine yt ?_ (by first|decide|(rw[e0];decide))|refine yf ?_ (by first|decide|(rw[e0];decide))|refine yo ?_)
 (repeat show _∧_;first|refine yr ?_|refine yt ?_|refine yf ?_|refine yt ?_ (by first|decide|(rw[e0];decide))|refine yf ?_ (by first|decide|(rw[e0];decide))|refine yo ?_)
 (repeat show _∧_;first|refine yr ?_|refine yt ?_|refine yf ?_|refine yo ?_)
 refine And.intro (show (0:Int)≤(i:Int)∧(i:Int)<(xm:Int) by omega) ?_
 refine ⟨jvS u xv,⟨.past (i:=0) rfl (by exact y1),rfl⟩,?_⟩
 by_cases k4:u.k=4#8
 rotate_left
 ·have f4:decide (u.k≠4#8)=true:=decide_eq_true k4
  rw [if_neg (fun h=>k4 h.1)] at hM
  rw [hM]
  (repeat show _∧_;first|refine yr ?_|refine yt ?_|refine yf ?_|refine yt ?_ (by first|decide|(rw[f4];decide))|refine yf ?_ (by first|decide|(rw[f4];decide))|refine yo ?_)
  (repeat show _∧_;first|refine yr ?_|refine yt ?_|refine yf ?_|refine yt ?_ (by first|decide|(rw[f4];decide))|refine yf ?_ (by first|decide|(rw[f4];decide))|refine yo ?_)
  exact FinW.of ⟨.tup [.c (.slc none 0 0),.c (.int .i64 12)],_,⟨[0],⟨rfl,rfl,rfl⟩,by (repeat first|exact trivial|refine ent1 ?_)⟩,by decide,W1,ms1,hL1,rfl,rfl⟩
 have f4:decide (u.k≠4#8)=false:=decide_eq_false (not_not_intro k4)
 (repeat show _∧_;first|refine yr ?_|refine yt ?_|refine yf ?_|refine yt ?_ (by first|decide|(rw[f4];decide))|refine yf ?_ (by first|decide|(rw[f4];decide))|refine yo ?_)
 (repeat show _∧_;first|refine yr ?_|refine yt ?_|refine yf ?_|refine yt ?_ (by first|decide|(rw[f4];decide))|refine yf ?_ (by first|decide|(rw[f4];decide))|refine yo ?_)
 by_cases k5:u.s=v03B
 rotate_left
 ·have f5:decide (U8 u.s≠[48,46,51])=true:=decide_eq_true (fun e=>k5 (U8_inj (e.trans (by decide))))
  have f6:decide (U8 u.s=[48,46,51])=false:=decide_eq_false (fun e=>k5 (U8_inj (e.trans (by decide))))
  rw [if_neg (fun h=>k5 h.2)] at hM
  rw [hM]
  (repeat show _∧_;first|refine yr ?_|refine yt ?_|refine yf ?_|refine yt ?_ (by first|decide|(rw[f5];decide)|(rw[f6];decide))|refine yf ?_ (by first|decide|(rw[f5];decide)|(rw[f6];decide))|refine yo ?_)
  (repeat show _∧_;first|refine yr ?_|refine yt ?_|refine yf ?_|refine yt ?_ (by first|decide|(rw[f5];decide)|(rw[f6];decide))|refine yf ?_ (by first|decide|(rw[f5];decide)|(rw[f6];decide))|refine yo ?_)
  exact FinW.of ⟨.tup [.c (.slc none 0 0),.c (.int .i64 12)],_,⟨[0],⟨rfl,rfl,rfl⟩,by (repeat first|exact trivial|refine ent1 ?_)⟩,by decide,W1,ms1,hL1,rfl,rfl⟩
 have f5:decide (U8 u.s≠[48,46,51])=false:=decide_eq_false (not_not_intro (by rw [k5]; decide))
 have f6:decide (U8 u.s=[48,46,51])=true:=decide_eq_true (by rw [k5]; decide)
 rw [if_pos ⟨k4,k5⟩] at hM
 (repeat show _∧_;first|refine yr ?_|refine yt ?_|refine yf ?_|refine yt ?_ (by first|decide|(rw[f5];decide)|(rw[f6];decide))|refine yf ?_ (by first|decide|(rw[f5];decide)|(rw[f6];decide))|refine yo ?_)
 obtain ⟨ya,ym,yc,yb,yp,yq⟩:=x1
 have hyl:=t1.len
 dsimp only at hyl
 have hcap:=t1.1.2.2.1
 dsimp only at hcap
 by_cases hn:2048<ym
 ·have k7:decide ((2048:Int)<(ym:Int))=true:=decide_eq_true (by omega)
  rw [if_pos (by omega)] at hM
  rw [hM]
  (repeat show _∧_;first|refine yr ?_|refine yt ?_|refine yf ?_|refine yt ?_ (by first|decide|(rw[k7];decide))|refine yf ?_ (by first|decide|(rw[k7];decide))|refine yo ?_)
  (repeat show _∧_;first|refine yr ?_|refine yt ?_|refine yf ?_|refine yt ?_ (by first|decide|(rw[k7];decide))|refine yf ?_ (by first|decide|(rw[k7];decide))|refine yo ?_)
  exact FinW.of ⟨.tup [.c (.slc none 0 0),.c (.int .i64 7)],_,⟨[0],⟨rfl,rfl,rfl⟩,by (repeat first|exact trivial|refine ent1 ?_)⟩,by decide,W1,ms1,hL1,rfl,rfl⟩
 have k7:decide ((2048:Int)<(ym:Int))=false:=decide_eq_false (by omega)
 rw [if_neg (by omega)] at hM
 (repeat show _∧_;first|refine yr ?_|refine yt ?_|refine yf ?_|refine yt ?_ (by first|decide|(rw[k7];decide))|refine yf ?_ (by first|decide|(rw[k7];decide))|refine yo ?_)
 (repeat show _∧_;first|refine yr ?_|refine yt ?_|refine yf ?_|refine yt ?_ (by first|decide|(rw[k7];decide))|refine yf ?_ (by first|decide|(rw[k7];decide))|refine yo ?_)
 refine .inl ⟨Nat × BitVec 64 × Option (List Ev × List SC × Nat) × World × List Nat,fun y=>match y with
  | (j,t,none,W',ms')=>⟨[.any,.any,.any,.any,.any,.any,.any,.any,.a (.c (.p 1 0 0)),.any,.any,.a (.c (.slc none 0 0)),.a (.c (.w64 (t))),.any,.any,.any,.any,.any,.any,.any,.any,.any,.any,.any,.any,.any,.any,.any,.any,.any,.any,.any,.any,.any,.any,.any,.any,.any,.any,.any,.any,.any,.any,.any,.any,.any,.any,.any,.any,.any,.any,.any,.any,.any,.any,.any,.any,.any,.any,.any,.any,.any,.any,.a (.c (.slc ya ym yc)),.a (.c (.int .i64 (ym))),.a (.c (.int .i64 (((j:Nat):Int)))),.any,.any,.any,.any,.any,.any,.any,.any,.any,.any,.any,.any,.any,.any,.any,.any,.any,.any,.any,.any,.any,.any,.any,.any,.any,.any,.any,.any,.any,.any,.any],[[.past W' ms'],jvS v1 ⟨ya,ym,yc,yb,yp,yq⟩]⟩
  | (j,t,some (done,cs,cc),W',ms')=>⟨[.any,.any,.any,.any,.any,.any,.any,.any,.a (.c (.p 1 0 0)),.any,.any,.a (.c (.sl 2 0 0 j cc)),.a (.c (.w64 (t))),.any,.any,.any,.any,.any,.any,.any,.any,.any,.any,.any,.any,.any,.any,.any,.any,.any,.any,.any,.any,.any,.any,.any,.any,.any,.any,.any,.any,.any,.any,.any,.any,.any,.any,.any,.any,.any,.any,.any,.any,.any,.any,.any,.any,.any,.any,.any,.any,.any,.any,.a (.c (.slc ya ym yc)),.a (.c (.int .i64 (ym))),.a (.c (.int .i64 (((j:Nat):Int)))),.any,.any,.any,.any,.any,.any,.any,.any,.any,.any,.any,.any,.any,.any,.any,.any,.any,.any,.any,.any,.any,.any,.any,.any,.any,.any,.any,.any,.any,.any,.any],[[.past W' ms'],jvS v1 ⟨ya,ym,yc,yb,yp,yq⟩,[.row (scale cc (3+1)) (nthC cs)]]⟩,
  fun y=>match y with
  | (j,t,none,W',ms')=>j=0∧t=0#64∧Later W1 ms1 W' ms'
  | (j,t,some (done,cs,cc),W',ms')=>0<j∧j≤ym∧j≤cc∧done.length=j∧Later W1 ms1 W' ms'∧parseM s=preE done (evsF (v1.l.drop j) t)∧RowAt W' ms' cs done,fun y=>ym-y.1,⟨(0,0#64,none,W1,ms1),[0,2],⟨⟨rfl,rfl,rfl⟩,by (repeat first|exact trivial|refine ent1 ?_)⟩,rfl,rfl,Later.refl _ _⟩,fun y hy=>?_⟩
 rcases y with ⟨j,t,_|⟨done,cs,cc⟩,W',ms'⟩
 ·obtain ⟨rfl,rfl,hL'⟩:=hy
  dsimp only
  have hPj:parseM s=preE [] (evsF (v1.l.drop 0) 0#64):=by rw [List.drop_zero,evsF_pre]; exact hM
  by_cases hj:0<ym
  rotate_left
  ·have e1:decide (((0:Nat):Int)<(ym:Int))=false:=decide_eq_false (by omega)
   have hP:parseM s=.inl []:=by rw [hPj,List.drop_eq_nil_of_le (by omega)]; simp [evsF,preE]
   rw [hP]
   (repeat show _∧_;first|refine yr ?_|refine yt ?_|refine yf ?_|refine yt ?_ (by first|decide|(rw[e1];decide))|refine yf ?_ (by first|decide|(rw[e1];decide))|refine yo ?_)
   exact FinW.of ⟨.tup [.c (.slc none 0 0),.c (.int .i64 0)],_,⟨[0],⟨rfl,rfl,rfl⟩,by (repeat first|exact trivial|refine ent1 ?_)⟩,none,0,0,W',ms',hL1.trans hL',EvsAt.nul,rfl,rfl⟩
  have e1:decide (((0:Nat):Int)<(ym:Int))=true:=decide_eq_true (by omega)
  have hjl:0<v1.l.length:=by omega
  obtain ⟨B,xz,hB,him2,z1,z2⟩:=(t1.later hL').elt hjl
  dsimp only at hB him2
  subst hB
  have hzS:=hSh2 _ (List.getElem_mem hjl)
  have hlast:decide (((0:Nat):Int)+1=(ym:Int))=(v1.l.drop (0+1)).isEmpty:=by
   by_cases hz:0+1=ym
   ·rw [List.drop_eq_nil_of_le (by omega)]; exact decide_eq_true (by omega)
   ·rw [List.drop_eq_getElem_cons (show 0+1<v1.l.length by omega)]; exact decide_eq_false (by omega)
  rw [List.drop_eq_getElem_cons hjl] at hPj
  generalize (v1.l[0]'hjl)=z at z1 z2 hzS hPj
  (repeat show _∧_;first|refine yr ?_|refine yt ?_|refine yf ?_|refine yt ?_ (by first|decide|(rw[e1];decide))|refine yf ?_ (by first|decide|(rw[e1];decide))|refine yo ?_)
  refine ⟨jvS z xz,⟨.past (i:=0) rfl (by exact z1),rfl⟩,?_⟩
  (repeat show _∧_;first|refine yr ?_|refine yt ?_|refine yf ?_|refine yo ?_)
  refine call_past (fn_qevent (d:=4) z2 hzS) 0 [] rfl rfl (by (repeat first|exact trivial|refine ent1 ?_)) (by (repeat first|exact trivial|refine ent1 ?_)) (fun _ _=>trivial) (fun x hs hr=>?_) ?_
  ·unfold EvA at hr
   split at hr
   ·obtain ⟨_,W5,ms5,hL5,_,rfl⟩:=hr
    exact ⟨W5,ms5,rfl,hL5⟩
   ·obtain ⟨_,W5,ms5,hL5,_,_,rfl⟩:=hr
    exact ⟨W5,ms5,rfl,hL5⟩
  intro y hs hr
  cases hE:evOf z with
  | inr c =>
   rw [hE] at hr
   obtain ⟨hc0,W5,ms5,hL5,rfl,rfl⟩:=hr
   have f0:decide (c=0)=false:=decide_eq_false hc0
   have f1:decide (c≠0)=true:=decide_eq_true hc0
   rw [evsF_bad _ hE] at hPj
   rw [hPj]
   (repeat show _∧_;first|refine yr ?_|refine yt ?_|refine yf ?_|refine yt ?_ (by first|decide|(rw[f0];decide)|(rw[f1];decide))|refine yf ?_ (by first|decide|(rw[f0];decide)|(rw[f1];decide))|refine yo ?_)
   (repeat show _∧_;first|refine yr ?_|refine yt ?_|refine yf ?_|refine yt ?_ (by first|decide|(rw[f0];decide)|(rw[f1];decide))|refine yf ?_ (by first|decide|(rw[f0];decide)|(rw[f1];decide))|refine yo ?_)
   exact FinW.of ⟨.tup [.c (.slc none 0 0),.c (.int .i64 c)],_,⟨[0],⟨rfl,rfl,rfl⟩,by (repeat first|exact trivial|refine ent1 ?_)⟩,hc0,W5,ms5,(hL1.trans hL').trans hL5,rfl,rfl⟩
  | inl e =>
  rw [hE] at hr
  obtain ⟨x,W5,ms5,hL5,hxe,rfl,rfl⟩:=hr
  (repeat show _∧_;first|refine yr ?_|refine yt ?_|refine yf ?_|refine yo ?_)
  refine call_same (fn_qfoll (W:=W5) (ms:=ms5) (x:=x) (e:=e) 0#64 (decide (((0:Nat):Int)+1=(ym:Int)))) [0] rfl (by (repeat first|exact trivial|refine ent1 ?_)) (by (repeat first|exact trivial|refine ent1 ?_)) (fun _ _=>trivial) ?_
  rintro y hs ⟨rfl,rfl⟩
  by_cases hf:follM e 0#64 (decide (((0:Nat):Int)+1=(ym:Int)))=0
  rotate_left
  ·have f1:decide (follM e 0#64 (decide (((0:Nat):Int)+1=(ym:Int)))≠0)=true:=decide_eq_true hf
   rw [evsF_fol _ hE (by rw [← hlast]; exact hf),← hlast] at hPj
   rw [hPj]
   (repeat show _∧_;first|refine yr ?_|refine yt ?_|refine yf ?_|refine yt ?_ (by first|decide|(rw[f1];decide))|refine yf ?_ (by first|decide|(rw[f1];decide))|refine yo ?_)
   (repeat show _∧_;first|refine yr ?_|refine yt ?_|refine yf ?_|refine yt ?_ (by first|decide|(rw[f1];decide))|refine yf ?_ (by first|decide|(rw[f1];decide))|refine yo ?_)
   exact FinW.of ⟨.tup [.c (.slc none 0 0),.c (.int .i64 (follM e 0#64 (decide (((0:Nat):Int)+1=(ym:Int)))))],_,⟨[0],⟨rfl,rfl,rfl⟩,by (repeat first|exact trivial|refine ent1 ?_)⟩,hf,W5,ms5,(hL1.trans hL').trans hL5,rfl,rfl⟩
  have f1:decide (follM e 0#64 (decide (((0:Nat):Int)+1=(ym:Int)))≠0)=false:=decide_eq_false (not_not_intro hf)
  rw [evsF_step _ hE (by rw [← hlast]; exact hf)] at hPj
  (repeat show _∧_;first|refine yr ?_|refine yt ?_|refine yf ?_|refine yt ?_ (by first|decide|(rw[f1];decide))|refine yf ?_ (by first|decide|(rw[f1];decide))|refine yo ?_)
  refine And.intro (show 0+4≤4 by decide) ?_
  (repeat show _∧_;first|refine yr ?_|refine yt ?_|refine yf ?_|refine yo ?_)
  intro c2 hc2
  (repeat show _∧_;first|refine yr ?_|refine yt ?_|refine yf ?_|refine yo ?_)
  refine ⟨(1,e.t,some ([e],flat (evS e x),c2),W5,ms5),[0,1,5],⟨⟨rfl,rfl,rfl⟩,?_⟩,⟨Nat.zero_lt_one,hj,hc2,rfl,hL'.trans hL5,hPj,RowAt.nil.snoc hxe⟩,by dsimp only; omega⟩
  dsimp only
  (repeat first|exact trivial|refine ent1 ?_)
  exact ⟨fun j hj=>eqC_cs ((RowAt.nil (W:=W5) (ms:=ms5)).snoc hxe).raw (new_cs rfl fun j hj=>updN_new hj) j,by (repeat first|exact trivial|refine ent1 ?_)⟩
 ·obtain ⟨hj0,hjn,hjc,hdl,hL',hPj,hrow⟩:=hy
  dsimp only
  by_cases hj:j<ym
  rotate_left
  ·have e1:decide (((j:Nat):Int)<(ym:Int))=false:=decide_eq_false (by omega)
   have hP:parseM s=.inl done:=by rw [hPj,List.drop_eq_nil_of_le (by omega)]; simp [evsF,preE]
   rw [hP]
   (repeat show _∧_;first|refine yr ?_|refine yt ?_|refine yf ?_|refine yt ?_ (by first|decide|(rw[e1];decide))|refine yf ?_ (by first|decide|(rw[e1];decide))|refine yo ?_)
   refine finW_frz [0] rfl (Nat.zero_lt_one) cx0_m rfl (fun W9 ms9 α hL9 hI=>?_)
   refine ⟨.tup [.c (.slc (some ((α 2).add (0+0))) j cc),.c (.int .i64 0)],[],⟨⟨rfl,rfl,rfl⟩,?_⟩,some ((α 2).add (0+0)),j,cc,W9,ms9,(hL1.trans hL').trans hL9,hrow.frz (F:=fun j=>!memB j [0]) hL9 (hI 2 rfl) hdl hjc (by omega),rfl,rfl⟩
   (repeat first|exact trivial|refine ent1 ?_)
  have e1:decide (((j:Nat):Int)<(ym:Int))=true:=decide_eq_true (by omega)
  have hjl:j<v1.l.length:=by omega
  obtain ⟨B,xz,hB,him2,z1,z2⟩:=(t1.later hL').elt hjl
  dsimp only at hB him2
  subst hB
  have hzS:=hSh2 _ (List.getElem_mem hjl)
  have hlast:decide (((j:Nat):Int)+1=(ym:Int))=(v1.l.drop (j+1)).isEmpty:=by
   by_cases hz:j+1=ym
   ·rw [List.drop_eq_nil_of_le (by omega)]; exact decide_eq_true (by omega)
   ·rw [List.drop_eq_getElem_cons (show j+1<v1.l.length by omega)]; exact decide_eq_false (by omega)
  rw [List.drop_eq_getElem_cons hjl] at hPj
  generalize (v1.l[j]'hjl)=z at z1 z2 hzS hPj
  (repeat show _∧_;first|refine yr ?_|refine yt ?_|refine yf ?_|refine yt ?_ (by first|decide|(rw[e1];decide))|refine yf ?_ (by first|decide|(rw[e1];decide))|refine yo ?_)
  refine ⟨jvS z xz,⟨.past (i:=0) rfl (by exact z1),rfl⟩,?_⟩
  (repeat show _∧_;first|refine yr ?_|refine yt ?_|refine yf ?_|refine yo ?_)
  refine call_past (fn_qevent (d:=4) z2 hzS) 0 [] rfl rfl (by (repeat first|exact trivial|refine ent1 ?_)) (by (repeat first|exact trivial|refine ent1 ?_)) (fun _ _=>trivial) (fun x hs hr=>?_) ?_
  ·unfold EvA at hr
   split at hr
   ·obtain ⟨_,W5,ms5,hL5,_,rfl⟩:=hr
    exact ⟨W5,ms5,rfl,hL5⟩
   ·obtain ⟨_,W5,ms5,hL5,_,_,rfl⟩:=hr
    exact ⟨W5,ms5,rfl,hL5⟩
  intro y hs hr
  cases hE:evOf z with
  | inr c =>
   rw [hE] at hr
   obtain ⟨hc0,W5,ms5,hL5,rfl,rfl⟩:=hr
   have f0:decide (c=0)=false:=decide_eq_false hc0
   have f1:decide (c≠0)=true:=decide_eq_true hc0
   rw [evsF_bad _ hE] at hPj
   rw [hPj]
   (repeat show _∧_;first|refine yr ?_|refine yt ?_|refine yf ?_|refine yt ?_ (by first|decide|(rw[f0];decide)|(rw[f1];decide))|refine yf ?_ (by first|decide|(rw[f0];decide)|(rw[f1];decide))|refine yo ?_)
   (repeat show _∧_;first|refine yr ?_|refine yt ?_|refine yf ?_|refine yt ?_ (by first|decide|(rw[f0];decide)|(rw[f1];decide))|refine yf ?_ (by first|decide|(rw[f0];decide)|(rw[f1];decide))|refine yo ?_)
   exact FinW.of ⟨.tup [.c (.slc none 0 0),.c (.int .i64 c)],_,⟨[0],⟨rfl,rfl,rfl⟩,by (repeat first|exact trivial|refine ent1 ?_)⟩,hc0,W5,ms5,(hL1.trans hL').trans hL5,rfl,rfl⟩
  | inl e =>
  rw [hE] at hr
  obtain ⟨x,W5,ms5,hL5,hxe,rfl,rfl⟩:=hr
  (repeat show _∧_;first|refine yr ?_|refine yt ?_|refine yf ?_|refine yo ?_)
  refine call_same (fn_qfoll (W:=W5) (ms:=ms5) (x:=x) (e:=e) t (decide (((j:Nat):Int)+1=(ym:Int)))) [0] rfl (by (repeat first|exact trivial|refine ent1 ?_)) (by (repeat first|exact trivial|refine ent1 ?_)) (fun _ _=>trivial) ?_
  rintro y hs ⟨rfl,rfl⟩
  by_cases hf:follM e t (decide (((j:Nat):Int)+1=(ym:Int)))=0
  rotate_left
  ·have f1:decide (follM e t (decide (((j:Nat):Int)+1=(ym:Int)))≠0)=true:=decide_eq_true hf
   rw [evsF_fol _ hE (by rw [← hlast]; exact hf),← hlast] at hPj
   rw [hPj]
   (repeat show _∧_;first|refine yr ?_|refine yt ?_|refine yf ?_|refine yt ?_ (by first|decide|(rw[f1];decide))|refine yf ?_ (by first|decide|(rw[f1];decide))|refine yo ?_)
   (repeat show _∧_;first|refine yr ?_|refine yt ?_|refine yf ?_|refine yt ?_ (by first|decide|(rw[f1];decide))|refine yf ?_ (by first|decide|(rw[f1];decide))|refine yo ?_)
   exact FinW.of ⟨.tup [.c (.slc none 0 0),.c (.int .i64 (follM e t (decide (((j:Nat):Int)+1=(ym:Int)))))],_,⟨[0],⟨rfl,rfl,rfl⟩,by (repeat first|exact trivial|refine ent1 ?_)⟩,hf,W5,ms5,(hL1.trans hL').trans hL5,rfl,rfl⟩
  have f1:decide (follM e t (decide (((j:Nat):Int)+1=(ym:Int)))≠0)=false:=decide_eq_false (not_not_intro hf)
  rw [evsF_step _ hE (by rw [← hlast]; exact hf)] at hPj
  (repeat show _∧_;first|refine yr ?_|refine yt ?_|refine yf ?_|refine yt ?_ (by first|decide|(rw[f1];decide))|refine yf ?_ (by first|decide|(rw[f1];decide))|refine yo ?_)
  refine And.intro (show 0+4≤4 by decide) ?_
  refine And.intro (show 0+scale 1 (3+1)≤4 by decide) ?_
  refine And.intro ⟨hjc,by first|omega|(rw [sc4]; omega),show (j+1)*64≤140737488355328 by omega⟩ ?_
  intro c2 hc2
  (repeat show _∧_;first|refine yr ?_|refine yt ?_|refine yf ?_|refine yo ?_)
  have hrw:RowAt W5 ms5 (cs++flat (evS e x)) (done++[e]):=(hrow.later hL5).snoc hxe
  refine ⟨(j+1,e.t,some (done++[e],cs++flat (evS e x),c2),W5,ms5),[0,1,6],⟨⟨rfl,rfl,rfl⟩,?_⟩,⟨by omega,hj,hc2,by rw [List.length_append,hdl]; rfl,hL'.trans hL5,hPj,hrw⟩,by dsimp only; omega⟩
  dsimp only
  (repeat first|exact trivial|refine ent1 ?_)
  exact ⟨fun j hj=>eqC_cs hrw.raw (app_cs (by rw [hrow.len,hdl]) (fun _ _=>rfl) rfl fun j hj=>updN_new hj) j,by (repeat first|exact trivial|refine ent1 ?_)⟩
end Sx
end
section
namespace Qj
open Sha Vi Js Ev
theorem enc_qr (r:Nat):(enc r).length≤(qr r).length:=by
 by_cases h:r<128
 ·have h1:(enc r).length=1:=by unfold enc; rw [if_pos h]; rfl
  have:=qr_pos r
  omega
 ·unfold qr
  rw [if_neg (by omega),if_neg (by omega),if_neg (by omega),if_neg (by omega),if_neg (by omega)]
  exact Nat.le_refl _
theorem flat_qr:∀ l:List Nat,(l.flatMap enc).length≤(l.flatMap qr).length
 | []=>Nat.le_refl _
 | r::l=>by
  have h1:=enc_qr r
  have h2:=flat_qr l
  rw [List.flatMap_cons,List.flatMap_cons,List.length_append,List.length_append]
  omega
theorem quote_len {s:Bs} (h:Utf s):s.length≤(quote s).length:=by
 obtain ⟨rs,h1,rfl⟩:=h
 rw [quote_of h1,List.length_cons,List.length_append]
 have:=flat_qr rs
 omega
theorem putL_mem {pv:JT→Bs}:∀ {l:List JT} {x:JT},x∈l→(pv x).length≤(putL pv l).length
 | [],x,h=>by cases h
 | [y],x,h=>by
  rw [List.mem_singleton] at h
  subst h
  exact Nat.le_refl _
 | y::z::l,x,h=>by
  rw [putL_cons _ _ _ (by simp),List.length_append,List.length_cons]
  rcases List.mem_cons.1 h with rfl|h
  ·omega
  ·have:=putL_mem (pv:=pv) h
   omega
theorem putO_mem {pv:JT→Bs}:∀ {ns:List Bs} {l:List JT} {x:JT},ns.length=l.length→x∈l→(pv x).length≤(putO pv ns l).length
 | _,[],x,_,h=>by cases h
 | [],_::_,x,hl,_=>by simp at hl
 | s::ns,[y],x,_,h=>by
  rw [List.mem_singleton] at h
  subst h
  show (pv x).length≤(quote s++58#8::pv x).length
  rw [List.length_append,List.length_cons]
  omega
 | s::ns,y::z::l,x,hl,h=>by
  rw [putO_cons _ _ _ _ _ (by simp),List.length_append,List.length_cons,List.length_append,List.length_cons]
  rcases List.mem_cons.1 h with rfl|h
  ·omega
  ·have:=putO_mem (pv:=pv) (ns:=ns) (by simpa using hl) h
   omega
theorem leaf_s {d:Nat} {v:JT} (h:leaf v):v.s.length≤(put d v).length:=by
 rw [put_leaf h]
 obtain ⟨_,_,_,hs,_,hu⟩:=h
 rcases hs with h4|h0
 ·unfold put1
  rw [h4,if_neg (by decide),if_neg (by decide),if_neg (by decide),if_neg (by decide),if_pos rfl]
  exact quote_len hu
 ·rw [h0]; exact Nat.zero_le _
theorem norm_s:∀ {d:Nat} {v:JT},norm d v→v.s.length≤(put d v).length
 | 0,_,h=>leaf_s h
 | d+1,v,h=>by
  rcases h with h|⟨_,hs,_⟩
  ·exact leaf_s h
  ·rw [hs]; exact Nat.zero_le _
theorem norm_kid:∀ {d:Nat} {v x:JT},norm d v→x∈v.l→∃ e,norm e x∧(put e x).length≤(put d v).length
 | 0,v,x,h,hx=>by rw [h.1] at hx; cases hx
 | d+1,v,x,h,hx=>by
  rcases h with h|⟨_,_,hl,hk⟩
  ·rw [h.1] at hx; cases hx
  ·refine ⟨d,hl x hx,?_⟩
   show _≤(put1 (putL (put d)) (putO (put d)) v).length
   unfold put1
   rcases hk with ⟨hk,_⟩|⟨hk,hn,_⟩
   ·rw [hk,if_neg (by decide),if_neg (by decide),if_neg (by decide),if_neg (by decide),if_neg (by decide),if_pos rfl,List.length_cons,List.length_append]
    have:=putL_mem (pv:=put d) hx
    omega
   ·rw [hk,if_neg (by decide),if_neg (by decide),if_neg (by decide),if_neg (by decide),if_neg (by decide),if_neg (by decide),List.length_cons,List.length_append]
    have:=putO_mem (pv:=put d) hn hx
    omega
end Qj
namespace Sx
open Go.RowKit Sha Vi Js Ev Qj
theorem shrt_of {N:Nat}:∀ (k:Nat) {d:Nat} {v:JT},norm d v→(put d v).length≤N→Shrt N k v
 | 0,d,v,h,hl=>Nat.le_trans (norm_s h) hl
 | k+1,d,v,h,hl=>⟨Nat.le_trans (norm_s h) hl,fun x hx=>let ⟨e,h1,h2⟩:=norm_kid h hx; shrt_of k h1 (Nat.le_trans h2 hl)⟩
theorem memJ_mem {v y:JT} {s:Bs} {k:BitVec 8} (h:memJ v s k=some y):y∈v.l:=by
 unfold memJ at h
 split at h
 ·cases h
 ·rename_i i _
  split at h
  ·cases h
  ·rename_i x hx
   split at h
   ·injection h with h
    subst h
    exact List.mem_of_getElem? hx
   ·cases h
theorem parse_shrt {s:Bs} {v y:JT} (hp:parse s=.ok v []) (hm:memJ v evsB 5#8=some y) (z:JT) (hz:z∈y.l):Shrt 4194304 2 z:=by
 have hs:s.length≤1048576:=by
  by_cases h:1048576<s.length
  ·unfold parse at hp
   rw [if_pos h] at hp
   cases hp
  ·omega
 obtain ⟨h1,h2⟩:=parse_ok hp
 obtain ⟨e,h3,h4⟩:=norm_kid h1 (memJ_mem hm)
 obtain ⟨f,h5,h6⟩:=norm_kid h3 hz
 exact shrt_of 2 h5 (by omega)
theorem fn_qparse' {W:World} {ms:List Nat} (hT:Tabs W ms) (s:Bs) (hs0:s.length≤4611686018427387904):FnR Tryd.prog tds 25 1 [[.past W ms]] [.c (.str (U8 s))] (fun _=>True) (PrsA W ms (parseM s)) :=
 fn_qparse hT s hs0 fun _ _ hp hm z hz=>parse_shrt hp hm z hz
end Sx
end
section
namespace Qj
open Sha Js Ev
end Qj
namespace Sx
open Go.RowKit Sha Vi Js Ev Qj
theorem fn_qprint' {W:World} {ms:List Nat} {a:Option Addr} {n c:Nat} {es:List Ev} (hT:Tabs W ms) (h:EvsAt W ms a n c es):FnR Tryd.prog tds 24 1 [[.past W ms]] [.c (.slc a n c)] (fun _=>True) (PrtA W ms es) :=
 fn_qprint hT h fun hp=>⟨norm_root hp,by have h1:=root_len hp; have h2:=(prtM_ok hp).1; omega⟩
end Sx
end
section
namespace Sx
open Go.RowKit Sha Vi Js Ev Qj
theorem prt_nil:prtM []=0:=rfl
set_option maxRecDepth 20000 in
set_option maxHeartbeats 8000000 in
theorem fn_qawake {W:World} {ms:List Nat} (hT:Tabs W ms):FnR Tryd.prog tds 9 1 [[.past W ms]] [] (fun _=>True) (fun y hs=>∃ W' ms',Later W ms W' ms'∧y=.a (.c (.bool true))∧hs=[[.past W' ms']]):=by
 refine fn_of_bodyW tds_ok follows_ Tryd.func9 rfl (t:=anys (Tryd.f9.ntmps)) rfl (fun w r0 hr0 _=>?_)
 obtain ⟨x0,rfl⟩:=len1' hr0
 (repeat show _∧_;first|refine yr ?_|refine yt ?_|refine yf ?_|refine yo ?_)
 refine call_past (fn_qprint' (W:=W) (ms:=ms) (es:=[]) hT EvsAt.nul) 0 [] rfl rfl (by (repeat first|exact trivial|refine ent1 ?_)) (by (repeat first|exact trivial|refine ent1 ?_)) (fun _ _=>trivial) (fun x hs hr=>?_) ?_
 ·obtain ⟨W5,ms5,hL5,rfl,_⟩:=hr
  exact ⟨W5,ms5,rfl,hL5⟩
 rintro y hs ⟨W5,ms5,hL5,rfl,rfl⟩
 rw [if_pos prt_nil]
 have hb:U8 (put 4 (rootJ []))=[123,34,113,108,111,103,95,118,101,114,115,105,111,110,34,58,34,48,46,51,34,44,34,101,118,101,110,116,115,34,58,91,93,125]:=by decide +kernel
 rw [hb]
 (repeat show _∧_;first|refine yr ?_|refine yt ?_|refine yf ?_|refine yo ?_)
 (repeat show _∧_;first|refine yr ?_|refine yt ?_|refine yf ?_|refine yo ?_)
 exact FinW.of ⟨.a (.c (.bool true)),_,⟨[0],⟨rfl,rfl,rfl⟩,by (repeat first|exact trivial|refine ent1 ?_)⟩,W5,ms5,hL5,rfl,rfl⟩
end Sx
end
section
namespace Vi
open Sha
def longL (l:Bs):Bs:=putL (BitVec.ofNat 64 l.length)++l
theorem lenN_of {n:Nat} (h:n≤1000000):lenN (BitVec.ofNat 64 n)≠0:=by
 have:=lenN_spec (BitVec.ofNat 64 n)
 rw [BitVec.toNat_ofNat,Nat.mod_eq_of_lt (by omega)] at this
 omega
end Vi
namespace Sx
open Sha Vi

end Sx
end
section
namespace Ev
open Vi Sha
def evB (last:BitVec 64) (e:Ev):Bs:=putAll [BitVec.setWidth 64 e.k,e.t-last]++putAll e.N++(if evData e.k=true then longL e.D else [])
def encL:List Ev→BitVec 64→Bs→Bs × Int
 | [],_,b=>(b,0)
 | e::r,last,b=>if checkM e≠0 then ([],checkM e) else if e.t<last then ([],21) else if e.k=19#8∧r≠[] then ([],10) else encL r e.t (b++evB last e)
def encM (es:List Ev):Bs × Int:=if 2048<es.length then ([],7) else encL es 0#64 ([66#8,73#8,78#8,49#8]++putAll [BitVec.ofNat 64 es.length])
theorem lenN_lt {n:BitVec 64} (h:n.toNat<4611686018427387904):lenN n≠0:=by
 have:=lenN_spec n
 omega
structure EvOk (e:Ev):Prop where
 k:evOk e.k=true
 t:e.t.toNat≤1125899906842624
 N:e.N.length≤8
 D:e.D.length≤20
 n:∀ n∈e.N,lenN n≠0
theorem check_ok {e:Ev} (h:checkM e=0):EvOk e:=by
 unfold checkM at h
 cases h1:evOk e.k
 ·rw [h1,if_pos rfl] at h; cases h
 rw [h1,if_neg (by decide)] at h
 by_cases h2:1125899906842624#64<e.t
 ·rw [if_pos h2] at h; cases h
 rw [if_neg h2] at h
 by_cases h3:e.N.length≠(evNames e.k).length
 ·rw [if_pos h3] at h; cases h
 rw [if_neg h3] at h
 by_cases h4:20<e.D.length
 ·rw [if_pos h4] at h; cases h
 rw [if_neg h4] at h
 by_cases h5:0<e.D.length∧evData e.k=false
 ·rw [if_pos h5] at h; cases h
 rw [if_neg h5] at h
 by_cases h6:∃ n∈e.N,4611686018427387903#64<n
 ·rw [if_pos h6] at h; cases h
 have hm:=many_le e.k
 refine ⟨h1,?_,by omega,by omega,fun n hn=>lenN_lt ?_⟩
 ·rw [BitVec.lt_def] at h2
  have:(1125899906842624#64).toNat=1125899906842624:=rfl
  omega
 ·have h7:¬ 4611686018427387903#64<n:=fun hc=>h6 ⟨n,hn,hc⟩
  rw [BitVec.lt_def] at h7
  have:(4611686018427387903#64).toNat=4611686018427387903:=rfl
  omega
end Ev
namespace Sx
open Go.RowKit Sha Vi Ev

end Sx
end
section
namespace Ev
theorem sameE_iff {e f:Ev}:sameE e f ↔ e=f:=by
 cases e; cases f
 unfold sameE
 simp only [Ev.mk.injEq]
theorem same_all {l m:List Ev} (hn:l.length=m.length) (h:∀ (i:Nat) (e f:Ev),l[i]?=some e→m[i]?=some f→e=f):l=m:=by
 refine List.ext_getElem? fun i=>?_
 by_cases hi:i<l.length
 ·rw [List.getElem?_eq_getElem hi,List.getElem?_eq_getElem (by omega)]
  exact congrArg some (h i _ _ (List.getElem?_eq_getElem hi) (List.getElem?_eq_getElem (by omega)))
 ·rw [List.getElem?_eq_none (by omega),List.getElem?_eq_none (by omega)]
end Ev
namespace Sx
open Go.RowKit Sha Vi Ev

set_option maxRecDepth 20000 in
set_option maxHeartbeats 8000000 in
theorem fn_bsame {W:World} {ms:List Nat} {a b:Option Addr} {n m c d:Nat} {l k:List Ev} (h1:EvsAt W ms a n c l) (h2:EvsAt W ms b m d k):FnR Tryd.prog tds 27 1 [[.past W ms]] [.c (.slc a n c),.c (.slc b m d)] (fun _=>True)
  (fun y hs=>(∃ r:Bool,(r=true ↔ l=k)∧y=.a (.c (.bool r)))∧hs=[[.past W ms]]):=by
 have hn:=h1.len
 have hm:=h2.len
 have hcap:=h1.cap
 refine fn_of_body tds_ok follows_ Tryd.func27 rfl (t:=.a (.c (.slc a n c))::.a (.c (.slc b m d))::anys (Tryd.f27.ntmps-2)) rfl (fun w r0 hr _=>?_)
 obtain ⟨x0,rfl⟩:=List.length_eq_one_iff.1 hr
 (repeat show _∧_;first|refine yr ?_|refine yt ?_|refine yf ?_|refine yo ?_)
 by_cases g1:n≠m
 ·have k1:decide ((n:Int)≠(m:Int))=true:=decide_eq_true (by omega)
  (repeat show _∧_;first|refine yr ?_|refine yt ?_|refine yf ?_|refine ya k1 ?_|refine yb k1 ?_|refine yo ?_)
  exact ⟨.a (.c (.bool false)),[[.past W ms]],⟨[0],⟨rfl,rfl,rfl⟩,by (repeat first|exact trivial|refine ent1 ?_)⟩,⟨false,⟨fun h=>Bool.noConfusion h,fun h=>absurd (congrArg List.length h) (by omega)⟩,rfl⟩,rfl⟩
 have k1:decide ((n:Int)≠(m:Int))=false:=decide_eq_false (by omega)
 obtain rfl:n=m:=by omega
 (repeat show _∧_;first|refine yr ?_|refine yt ?_|refine yf ?_|refine ya k1 ?_|refine yb k1 ?_|refine yo ?_)
 refine .inl ⟨Nat,fun i=>⟨[.a (.c (.slc a n c)),.a (.c (.slc b n d)),.any,.any,.any,.any,.any,.any,.any,.any,.any,.any,.a (.c (.int .i64 (↑n))),.a (.c (.int .i64 (↑i))),.any,.any,.any,.any,.any,.any,.any,.any,.any,.any,.any,.any,.any],[[.past W ms]]⟩,fun i=>i≤n∧∀ j e f,j<i→l[j]?=some e→k[j]?=some f→sameE e f,fun i=>n-i,⟨0,[0],⟨⟨rfl,rfl,rfl⟩,by (repeat first|exact trivial|refine ent1 ?_)⟩,Nat.zero_le _,fun j e f hj=>absurd hj (Nat.not_lt_zero _)⟩,fun i ⟨hi,hall⟩=>?_⟩
 refine And.intro (fun hlt=>?_) (fun hge=>?_)
 ·have hlt:i<n:=by have:(i:Int)<(n:Int):=of_decide_eq_true hlt; omega
  obtain ⟨e,he⟩:∃ e,l[i]?=some e:=⟨_,List.getElem?_eq_getElem (by omega)⟩
  obtain ⟨f,hf⟩:∃ f,k[i]?=some f:=⟨_,List.getElem?_eq_getElem (by omega)⟩
  cases ha:a with
  | none=>have:=h1.nil ha; have:=h1.le; omega
  | some A =>
  cases hb:b with
  | none=>have:=h2.nil hb; have:=h2.le; omega
  | some B =>
  obtain ⟨x,him,hx⟩:=h1.elt A ha i e he
  obtain ⟨y,hjm,hy⟩:=h2.elt B hb i f hf
  subst ha; subst hb
  (repeat show _∧_;first|refine yr ?_|refine yt ?_|refine yf ?_|refine yo ?_)
  refine ⟨none,[],[(0,true),(1,true),(2,true),(3,true),(4,true),(5,true),(6,true),(7,true),(8,false),(9,true)],[],by kernel_rfl,?_⟩
  refine And.intro (show (0:Int)≤(i:Int)∧(i:Int)<(n:Int) by omega) ?_
  refine ⟨evS e x,⟨RawAt.past (i:=0) rfl him,rfl⟩,?_⟩
  refine And.intro (show (0:Int)≤(i:Int)∧(i:Int)<(n:Int) by omega) ?_
  refine ⟨evS f y,⟨RawAt.past (i:=0) rfl hjm,rfl⟩,?_⟩
  (repeat show _∧_;first|refine yr ?_|refine yt ?_|refine yf ?_|refine yo ?_)
  refine call_same (fn_esame hx hy) [0] rfl (by (repeat first|exact trivial|refine ent1 ?_)) (by (repeat first|exact trivial|refine ent1 ?_)) (fun _ _=>trivial) ?_
  rintro z hs' ⟨rfl,rfl⟩
  (repeat show _∧_;first|refine yr ?_|refine yt ?_|refine yf ?_|refine yo ?_)
  by_cases hs:sameE e f
  ·have ks:decide (sameE e f)=true:=decide_eq_true hs
   have ks':(!decide (sameE e f))=false:=by rw [ks]; rfl
   (repeat show _∧_;first|refine yr ?_|refine yt ?_|refine yf ?_|refine ya ks' ?_|refine yb ks' ?_|refine yo ?_)
   refine ⟨i+1,[0],⟨⟨rfl,rfl,rfl⟩,by (repeat first|exact trivial|refine ent1 ?_)⟩,⟨by omega,fun j e' f' hj he' hf'=>?_⟩,by dsimp only; omega⟩
   by_cases hji:j=i
   ·subst hji
    rw [he] at he'; rw [hf] at hf'
    injection he' with he'; injection hf' with hf'
    rw [← he',← hf']; exact hs
   ·exact hall j e' f' (by omega) he' hf'
  ·have ks:decide (sameE e f)=false:=decide_eq_false hs
   have ks':(!decide (sameE e f))=true:=by rw [ks]; rfl
   (repeat show _∧_;first|refine yr ?_|refine yt ?_|refine yf ?_|refine ya ks' ?_|refine yb ks' ?_|refine yo ?_)
   exact ⟨.a (.c (.bool false)),[[.past W ms]],⟨[0],⟨rfl,rfl,rfl⟩,by (repeat first|exact trivial|refine ent1 ?_)⟩,⟨false,⟨fun h=>Bool.noConfusion h,fun h=>absurd (sameE_iff.2 (Option.some.inj (he.symm.trans ((by rw [h]):l[i]?=k[i]?) |>.trans hf))) hs⟩,rfl⟩,rfl⟩
 ·obtain rfl:i=n:=by have:¬ (i:Int)<(n:Int):=of_decide_eq_false hge; omega
  (repeat show _∧_;first|refine yr ?_|refine yt ?_|refine yf ?_|refine yo ?_)
  exact ⟨.a (.c (.bool true)),[[.past W ms]],⟨[0],⟨rfl,rfl,rfl⟩,by (repeat first|exact trivial|refine ent1 ?_)⟩,⟨true,⟨fun _=>same_all (by omega) (fun j e f he hf=>sameE_iff.1 (hall j e f (by rw [← hn]; exact (List.getElem?_eq_some_iff.1 he).1) he hf)),fun _=>rfl⟩,rfl⟩,rfl⟩
end Sx
end
section
namespace Vi
open Sha
theorem nx_putE {n:BitVec 64} (h0:lenN n≠0) (r:Bs):nextM (putL n++r) 0=((n,lenN n,true),r,0):=by
 have hk:=lenN_ok h0
 obtain ⟨h1,h2⟩:=take_wide hk h0 (Nat.le_refl _) r
 have hl:(putL n).length=lenN n:=wideL_len _ _
 have hpos:0<lenN n:=by omega
 have ht:takeM (putL n++r)=(n,lenN n,0):=by
  unfold takeM
  rw [if_neg (by rw [show sizeT (L (putL n++r) 0)=lenN n from h1,List.length_append]; omega)]
  rw [show sizeT (L (putL n++r) 0)=lenN n from h1,show numT (putL n++r) (lenN n-1)=n from h2]
 unfold nextM
 rw [if_neg (by decide),ht]
 show (if (0:Int)≠0 then _ else ((n,lenN n,true),(putL n++r).drop (lenN n),0))=_
 rw [if_neg (by decide),← hl,List.drop_left]
theorem least_put {n:BitVec 64} (h0:lenN n≠0) (r:Bs):leastM (putL n++r) 0=(n,r,0):=by
 unfold leastM; rw [nx_putE h0]
 show (if true=false then _ else if lenN n≠lenN n then _ else _)=_
 rw [if_neg (by decide),if_neg (fun h=>h rfl)]
end Vi
end
section
namespace Ev
open Vi Sha
theorem numsR_put:∀ (N:List (BitVec 64)) (r:Bs),(∀ n∈N,lenN n≠0)→numsR N.length (putAll N++r) 0=(N,r,0)
 | [],r,_=>rfl
 | n::N,r,h=>by
  show numsR (N.length+1) ((putL n++putAll N)++r) 0=_
  rw [List.append_assoc,numsR,least_put (h n (List.mem_cons_self ..))]
  dsimp only
  rw [numsR_put N r fun m hm=>h m (List.mem_cons_of_mem _ hm)]
theorem min20 {m:BitVec 64} (h:¬ 20#64<m):manyL m=(m.toNat:Int)∧m.toNat≤20:=by
 unfold manyL
 rw [if_neg h]
 rw [BitVec.lt_def] at h
 have:(20#64).toNat=20:=rfl
 exact ⟨rfl,by omega⟩
theorem take3_put {e:Ev} (r:Bs) (h1:e.D.length≤20) (h2:evData e.k=false→e.D=[]):take3 e.k e.t e.N ((if evData e.k=true then longL e.D else [])++r,0)=(e,r,0):=by
 cases hd:evData e.k
 ·rw [take3_no hd]
  have:=h2 hd
  cases e
  dsimp only at this ⊢
  subst this
  rfl
 ·rw [if_pos rfl]
  have hl:lenN (BitVec.ofNat 64 e.D.length)≠0:=lenN_of (by omega)
  have hx:leastM (longL e.D++r) 0=(BitVec.ofNat 64 e.D.length,e.D++r,0):=by
   show leastM ((putL _++e.D)++r) 0=_
   rw [List.append_assoc,least_put hl]
  have hm:(BitVec.ofNat 64 e.D.length).toNat=e.D.length:=by rw [BitVec.toNat_ofNat]; omega
  have hlt:¬ 20#64<BitVec.ofNat 64 e.D.length:=by
   rw [BitVec.lt_def,hm]
   have:(20#64).toNat=20:=rfl
   omega
  refine take3_ok hd hx (D:=e.D) (l2:=r) (e2:=0) ?_
  rw [decide_eq_false hlt]
  show bytesM (e.D++r) 0 (manyL _)=_
  rw [(min20 hlt).1,hm]
  unfold bytesM
  rw [if_neg (by decide),if_neg (by rw [List.length_append]; omega)]
  rw [Int.toNat_natCast,List.take_left,List.drop_left]
theorem kind_put {k:BitVec 8}:kindL (BitVec.setWidth 64 k)=k:=by
 unfold kindL
 have:=k.isLt
 rw [if_neg (by rw [BitVec.lt_def,BitVec.toNat_setWidth]; have:(255#64).toNat=255:=rfl; omega)]
 apply BitVec.eq_of_toNat_eq
 rw [BitVec.toNat_setWidth,BitVec.toNat_setWidth]
 omega
structure GoodE (last:BitVec 64) (e:Ev):Prop where
 k:evOk e.k=true
 lo:last.toNat≤e.t.toNat
 hi:e.t.toNat≤1125899906842624
 N:e.N.length=(evNames e.k).length
 n:∀ n∈e.N,lenN n≠0
 D:e.D.length≤20
 nD:evData e.k=false→e.D=[]
theorem take_put_ev {last:BitVec 64} {ev:Ev} (h:GoodE last ev) (r:Bs):takeE (evB last ev++r) 0 last=(ev,r,0):=by
 have h1:=h.lo
 have h2:=h.hi
 have hsub:(ev.t-last).toNat=ev.t.toNat-last.toNat:=by rw [BitVec.toNat_sub]; omega
 have hadd:last+(ev.t-last)=ev.t:=by
  apply BitVec.eq_of_toNat_eq
  rw [BitVec.toNat_add,hsub]; omega
 have hl1:lenN (BitVec.setWidth 64 ev.k)≠0:=lenN_lt (by rw [BitVec.toNat_setWidth]; have:=ev.k.isLt; omega)
 have hl2:lenN (ev.t-last)≠0:=lenN_lt (by omega)
 have hb:evB last ev++r=putL (BitVec.setWidth 64 ev.k)++(putL (ev.t-last)++(putAll ev.N++((if evData ev.k=true then longL ev.D else [])++r))):=by
  unfold evB
  show ((putL _++(putL _++[]))++putAll ev.N++_)++r=_
  simp only [List.append_assoc,List.append_nil]
 have hM:(1125899906842624#64).toNat=1125899906842624:=rfl
 rw [hb]
 unfold takeE
 rw [least_put hl1]
 dsimp only
 rw [if_neg (by decide),kind_put,h.k]
 show take1 ev.k last (_,0)=_
 rw [take1_eq (least_put hl2 _),hadd,decide_eq_false (by rw [BitVec.lt_def]; omega)]
 show take2 ev.k ev.t (_,0)=_
 unfold take2
 dsimp only
 rw [← h.N,numsR_put _ _ h.n]
 exact take3_put r h.D h.nD
end Ev
end
section
namespace Ev
open Vi Sha
def catE:BitVec 64→List Ev→Bs
 | _,[]=>[]
 | last,e::r=>evB last e++catE e.t r
def GoodL:BitVec 64→List Ev→Prop
 | _,[]=>True
 | last,e::r=>GoodE last e∧(e.k=19#8→r=[])∧GoodL e.t r
theorem GoodE.check {last:BitVec 64} {e:Ev} (h:GoodE last e):checkM e=0∧¬ e.t<last:=by
 have hM:(1125899906842624#64).toNat=1125899906842624:=rfl
 have hT:(4611686018427387903#64).toNat=4611686018427387903:=rfl
 have h1:=h.hi
 have h2:=h.lo
 have h3:=h.D
 refine ⟨?_,by rw [BitVec.lt_def]; omega⟩
 unfold checkM
 rw [if_neg (by rw [h.k]; decide),if_neg (by rw [BitVec.lt_def]; omega),if_neg (fun hc=>hc h.N),if_neg (by omega),if_neg,if_neg]
 ·rintro ⟨n,hn,hb⟩
  have h4:=h.n n hn
  have:=lenN_spec n
  rw [BitVec.lt_def] at hb
  omega
 ·rintro ⟨hc,hd⟩
  rw [h.nD hd] at hc
  exact absurd hc (by decide)
theorem good_of {last:BitVec 64} {e:Ev} (h:checkM e=0) (ht:¬ e.t<last):GoodE last e:=by
 have hok:=check_ok h
 rw [BitVec.lt_def] at ht
 refine ⟨hok.k,by omega,hok.t,?_,hok.n,hok.D,fun hd=>?_⟩
 ·unfold checkM at h
  rw [if_neg (by rw [hok.k]; decide)] at h
  by_cases h2:1125899906842624#64<e.t
  ·rw [if_pos h2] at h; cases h
  rw [if_neg h2] at h
  by_cases h3:e.N.length≠(evNames e.k).length
  ·rw [if_pos h3] at h; cases h
  omega
 ·unfold checkM at h
  rw [if_neg (by rw [hok.k]; decide)] at h
  by_cases h2:1125899906842624#64<e.t
  ·rw [if_pos h2] at h; cases h
  rw [if_neg h2] at h
  by_cases h3:e.N.length≠(evNames e.k).length
  ·rw [if_pos h3] at h; cases h
  rw [if_neg h3] at h
  by_cases h4:20<e.D.length
  ·rw [if_pos h4] at h; cases h
  rw [if_neg h4] at h
  by_cases h5:0<e.D.length∧evData e.k=false
  ·rw [if_pos h5] at h; cases h
  exact List.eq_nil_of_length_eq_zero (by
   rcases Nat.eq_zero_or_pos e.D.length with h6|h6
   ·exact h6
   ·exact absurd ⟨h6,hd⟩ h5)
theorem encL_back:∀ (es:List Ev) (last:BitVec 64) (b:Bs) {c:Bs},encL es last b=(c,0)→GoodL last es∧c=b++catE last es
 | [],_,b,c,h=>by
  rw [encL] at h
  simp only [Prod.mk.injEq] at h
  exact ⟨trivial,by rw [catE,List.append_nil]; exact h.1.symm⟩
 | e::r,last,b,c,h=>by
  rw [encL] at h
  by_cases h1:checkM e≠0
  ·rw [if_pos h1] at h
   simp only [Prod.mk.injEq] at h
   exact absurd h.2 h1
  rw [if_neg h1] at h
  by_cases h2:e.t<last
  ·rw [if_pos h2] at h
   simp only [Prod.mk.injEq] at h
   exact absurd h.2 (by decide)
  rw [if_neg h2] at h
  by_cases h3:e.k=19#8∧r≠[]
  ·rw [if_pos h3] at h
   simp only [Prod.mk.injEq] at h
   exact absurd h.2 (by decide)
  rw [if_neg h3] at h
  obtain ⟨g1,g2⟩:=encL_back r e.t _ h
  refine ⟨⟨good_of (by omega) h2,fun hk=>?_,g1⟩,by rw [g2,catE,List.append_assoc]⟩
  exact Decidable.byContradiction fun hr=>h3 ⟨hk,hr⟩
theorem evsR_put:∀ (es:List Ev) (last:BitVec 64) (r:Bs),GoodL last es→evsR es.length last (catE last es++r) 0=(es,r,0)
 | [],_,r,_=>rfl
 | e::es,last,r,⟨h1,h2,h3⟩=>by
  rw [List.length_cons,catE,List.append_assoc]
  have hf:failIf (decide (e.k=19#8) && decide (es.length≠0)) 10 (catE e.t es++r,0)=(catE e.t es++r,0):=by
   have:(decide (e.k=19#8) && decide (es.length≠0))=false:=by
    by_cases hk:e.k=19#8
    ·rw [h2 hk]; simp
    ·rw [decide_eq_false hk]; rfl
   rw [this]; rfl
  rw [evsR_step (take_put_ev h1 _) hf,evsR_put es e.t r h3]
abbrev magicE:Bs:=[66#8,73#8,78#8,49#8]
theorem enc_back {es:List Ev} {b:Bs} (h:encM es=(b,0)):es.length≤2048∧GoodL 0#64 es∧b=magicE++(putL (BitVec.ofNat 64 es.length)++catE 0#64 es):=by
 unfold encM at h
 by_cases h1:2048<es.length
 ·rw [if_pos h1] at h
  simp only [Prod.mk.injEq] at h
  exact absurd h.2 (by decide)
 rw [if_neg h1] at h
 obtain ⟨g1,g2⟩:=encL_back es _ _ h
 refine ⟨by omega,g1,?_⟩
 rw [g2]
 show (magicE++(putL _++[]))++_=_
 rw [List.append_nil,List.append_assoc]
theorem dec_app {es:List Ev} {b:Bs} (h:encM es=(b,0)) (r:Bs):decM (b++r)=finD (es,r,0):=by
 obtain ⟨h1,h2,rfl⟩:=enc_back h
 have hn:(BitVec.ofNat 64 es.length).toNat=es.length:=by rw [BitVec.toNat_ofNat]; omega
 have hb:bytesM (magicE++(putL (BitVec.ofNat 64 es.length)++(catE 0#64 es++r))) 0 4=(magicE,putL (BitVec.ofNat 64 es.length)++(catE 0#64 es++r),0):=by
  unfold bytesM
  rw [if_neg (by decide),if_neg (by rw [List.length_append]; simp only [List.length_cons,List.length_nil]; omega)]
  rfl
 rw [List.append_assoc,List.append_assoc]
 unfold decM
 rw [hb]
 show dec2 (failIf (decide ((0:Int)=0) && decide (U8 magicE≠[66,73,78,49])) 4 (_,0))=_
 rw [show (decide ((0:Int)=0) && decide (U8 magicE≠[66,73,78,49]))=false by decide]
 show dec2 (_,0)=_
 unfold dec2
 dsimp only
 rw [least_put (lenN_of (by omega))]
 dsimp only
 rw [decide_eq_false (by rw [BitVec.lt_def,hn]; have:(2048#64).toNat=2048:=rfl; omega)]
 show dec3 _ (_,0)=_
 unfold dec3
 dsimp only
 rw [hn,evsR_put es _ r h2]
theorem dec_enc {es:List Ev} {b:Bs} (h:encM es=(b,0)):decM b=(es,0):=by
 have:=dec_app h []
 rw [List.append_nil] at this
 rw [this]; rfl
theorem dec_more {es:List Ev} {b r:Bs} (h:encM es=(b,0)) (hr:r≠[]):decM (b++r)=([],24):=by
 rw [dec_app h]
 have hp:0<r.length:=List.length_pos_iff.2 hr
 have:endM r 0=([],24):=by unfold endM; rw [if_pos hp]; unfold failM; rw [if_neg (by decide)]
 unfold finD
 dsimp only
 rw [this,if_pos (by decide)]
end Ev
end
section
namespace Ev
open Vi Sha
theorem mk62_len (x:BitVec 64):lenN (mk62 x)≠0:=by
 refine lenN_lt ?_
 show (x &&& 4611686018427387903#64).toNat<_
 rw [BitVec.toNat_and]
 have h1:(4611686018427387903#64).toNat=4611686018427387903:=rfl
 have h2:x.toNat &&& (4611686018427387903#64).toNat≤(4611686018427387903#64).toNat:=Nat.and_le_right
 omega
theorem fit_shape (e:Ev) (k:BitVec 8):evOk (fitE e k).k=true∧(fitE e k).N.length=(evNames (fitE e k).k).length∧(∀ n∈(fitE e k).N,lenN n≠0)∧(fitE e k).D.length≤20∧(evData (fitE e k).k=false→(fitE e k).D=[]):=by
 refine ⟨kindE_ok k,?_,?_,?_,?_⟩
 ·show (((padE e.N ((evNames (kindE k)).length-e.N.length)).take (evNames (kindE k)).length).map mk62).length=(evNames (kindE k)).length
  rw [List.length_map,List.length_take,padE_len]
  omega
 ·intro n hn
  obtain ⟨x,_,rfl⟩:=List.mem_map.1 (show n∈((padE e.N ((evNames (kindE k)).length-e.N.length)).take (evNames (kindE k)).length).map mk62 from hn)
  exact mk62_len x
 ·show (if evData (kindE k)=true then e.D.take 20 else []).length≤20
  split
  ·rw [List.length_take]; omega
  ·exact Nat.zero_le _
 ·intro h
  show (if evData (kindE k)=true then e.D.take 20 else [])=[]
  rw [if_neg (by rw [show evData (kindE k)=false from h]; decide)]
theorem fit2_shape (e:Ev) (k:BitVec 8):(fit2E e k).k≠19#8∧evOk (fit2E e k).k=true∧(fit2E e k).N.length=(evNames (fit2E e k).k).length∧(∀ n∈(fit2E e k).N,lenN n≠0)∧(fit2E e k).D.length≤20∧(evData (fit2E e k).k=false→(fit2E e k).D=[]):=by
 unfold fit2E
 split
 ·exact ⟨show kindE 0#8≠19#8 by decide,fit_shape _ _⟩
 ·rename_i h
  exact ⟨h,fit_shape _ _⟩
theorem at_ok {t:BitVec 64} (e:Ev) (h:t.toNat≤1125899906842624):t.toNat≤(atE t e).toNat∧(atE t e).toNat≤1125899906842624:=by
 have hM:(1125899906842624#64).toNat=1125899906842624:=rfl
 have h1:(e.t % 100000#64).toNat<100000:=by
  rw [BitVec.toNat_umod]
  exact Nat.mod_lt _ (by decide)
 have h2:(t+e.t % 100000#64).toNat=t.toNat+(e.t % 100000#64).toNat:=by rw [BitVec.toNat_add]; omega
 unfold atE
 split
 ·rw [hM]; omega
 ·rename_i hc
  rw [BitVec.lt_def,h2] at hc
  rw [h2]
  omega
theorem row_good (ks:Bs):∀ (es:List Ev) (i:Nat) (t:BitVec 64),t.toNat≤1125899906842624→GoodL t (rowE ks es i t)∧∀ e∈rowE ks es i t,e.k≠19#8
 | [],_,_,_=>⟨trivial,fun e he=>by cases he⟩
 | e::r,i,t,ht=>by
  obtain ⟨a1,a2⟩:=at_ok (fit2E e (keyE ks i)) ht
  obtain ⟨s0,s1,s2,s3,s4,s5⟩:=fit2_shape e (keyE ks i)
  obtain ⟨g1,g2⟩:=row_good ks r (i+1) (atE t (fit2E e (keyE ks i))) a2
  rw [rowE]
  refine ⟨⟨⟨s1,a1,a2,s2,s3,s4,s5⟩,fun h=>absurd h s0,g1⟩,fun x hx=>?_⟩
  rcases List.mem_cons.1 hx with rfl|hx
  ·exact s0
  ·exact g2 x hx
end Ev
end
section
namespace Ev
open Vi Sha

end Ev
end
section
namespace Qj
open Sha Js Ev Vi
theorem foll_good {last:BitVec 64} {e:Ev} {b:Bool} (h:GoodE last e) (hk:e.k=19#8→b=true):follM e last b=0:=by
 unfold follM
 rw [if_neg h.check.2,if_neg (fun hc=>absurd hc.2 (by rw [hk hc.1]; decide))]
theorem prtF_good:∀ {es:List Ev} {last:BitVec 64},GoodL last es→prtF es last=0
 | [],_,_=>rfl
 | e::r,last,⟨h1,h2,h3⟩=>by
  unfold prtF
  rw [if_neg (not_not_intro h1.check.1),if_neg (not_not_intro (foll_good h1 fun h=>by rw [h2 h]; rfl))]
  exact prtF_good h3
theorem prt_good {es:List Ev} (h:GoodL 0#64 es) (hl:es.length≤2048):prtM es=0:=by
 unfold prtM
 rw [if_neg (by omega)]
 exact prtF_good h
end Qj
end
section
namespace Vi
open Sha
end Vi
namespace Sx
open Sha Vi

end Sx
end
section
namespace Ev
open Vi Sha
end Ev
namespace Sx
open Go.RowKit Sha Vi Ev

end Sx
end
section
namespace Sx
open Go.RowKit Sha Vi Ev

set_option maxRecDepth 20000 in
theorem fn_erow0 {W:World} {ms:List Nat} {a:Option Addr} {n c:Nat} (hn:n=0) {aK:Option Addr} {nK cK:Nat} :
  FnR Tryd.prog tds 21 1 [[.past W ms]] [.c (.slc a n c),.c (.slc aK nK cK)] (fun _=>True)
  (fun y hs=>y=.a (.c (.slc none 0 0))∧hs=[[.past W ms]]):=by
 subst hn
 refine fn_of_body tds_ok follows_ Tryd.func21 rfl (t:=.a (.c (.slc a 0 c))::.a (.c (.slc aK nK cK))::anys (Tryd.f21.ntmps-2)) rfl (fun w r0 hr _=>?_)
 obtain ⟨x0,rfl⟩:=List.length_eq_one_iff.1 hr
 (repeat show _∧_;first|refine yr ?_|refine yt ?_|refine yf ?_|refine yo ?_)
 refine .inr ⟨1,?_⟩
 (repeat show _∧_;first|refine yr ?_|refine yt ?_|refine yf ?_|refine yo ?_)
 refine ⟨.a (.c (.slc none 0 0)),[[.past W ms]],⟨[0],⟨rfl,rfl,rfl⟩,?_⟩,rfl,rfl⟩
 (repeat first|exact trivial|refine ent1 ?_)
end Sx
end
section
namespace Sx
open Go.RowKit Sha Vi Ev

end Sx
end
section
namespace Sx
open Go.RowKit Sha Vi Ev

end Sx
end
section
namespace Sx
open Go.RowKit Sha Vi Ev

end Sx
end
section
namespace Sx
open Go.RowKit Sha Vi Ev

end Sx
end
section
namespace Sx
open Go.RowKit Go.ChangeShapes Go.WideShapes

section
variable {H : Type} {enc : TypeId × Value → H} {P : Program} {w : World} {base : Nat} {sp : Nat → Bool} {held : Bool}
theorem wf_w8 {a:Int} (h:(Lit.int .u8 a).wf=true):a=((BitVec.ofInt 8 a).toNat:Int):=by
 have:=bounds_u8 h
 rw [BitVec.toNat_ofInt]
 omega
end
theorem isAs_nil (r:Rho):IsAs r [] []:=⟨rfl,fun j x e=>by simp at e⟩
theorem isAs_cons {r:Rho} {x:SA} {v:Value} {l:List SA} {vs:List Value} (h:SA.Is r x v) (hs:IsAs r l vs):IsAs r (x::l) (v::vs) :=
 ⟨by simpa using hs.1,fun j y e=>by
  cases j with
  | zero=>simp at e; subst e; exact ⟨v,rfl,h⟩
  | succ j=>exact hs.2 j y e⟩
end Sx
end
section
namespace Sx
open Go.ChangeShapes

theorem wf_w16 {a:Int} (h:(Lit.int .u16 a).wf=true):a=((BitVec.ofInt 16 a).toNat:Int):=by
 have:=bounds_u16 h
 rw [BitVec.toNat_ofInt]
 omega
theorem wf_w64 {a:Int} (h:(Lit.int .u64 a).wf=true):a=((BitVec.ofInt 64 a).toNat:Int):=by
 have:=bounds_u64 h
 rw [BitVec.toNat_ofInt]
 omega
end Sx
end
section
namespace Sx
open Go.RowKit Go.ChangeShapes Go.WideShapes Sha

theorem okWide_spot {P:Program} {w:World} {r:Reach} {b0:Nat} {t e:TypeId} {a:Option Addr} {n c:Nat} (ht:P.underlying t=some (.slice e)) (h:Value.okWide P w r b0 t (.slice a n c)):∀ x,a=some x→x.spot=none:=by
 rintro x rfl
 simp only [Value.okWide,ht,Cell.okWide,Cell.ok] at h
 exact h.2.2.2.1
structure InB (w:World) (a:Option Addr) (n c:Nat) (z:Bool) (l:Bs) (B f:Nat):Prop where
 len:l.length=n
 le:n≤c
 cap:c≤maxLen
 nil:z=true→l=[]
 val:∀ (r:Rho) (i:Nat),r[i]?=some (B,f)→SC.Is r (.sn z i 0 0 n c) (.slice a n c)
 at_:∀ r:Rho,At false r w B f (flat (bts z n 0 n (L l)))
theorem open_b8 {w:World} {a:Option Addr} {len cap:Nat} {zs:List Int} (h:IsRow .u8 w a len cap zs) (hs:∀ x,a=some x→x.spot=none):∃ z l B f,InB w a len cap z l B f:=by
 rcases h with ⟨rfl,rfl,rfl,rfl⟩|⟨x,rfl,hl,hm,hz,hc,hw⟩
 ·exact ⟨true,[],0,0,rfl,Nat.le_refl _,by unfold maxLen; omega,fun _=>rfl,fun r i _=>.inl ⟨rfl,rfl,rfl,rfl⟩,fun r j y e=>by simp [bts,flat] at e⟩
 ·obtain ⟨B,f,spot⟩:=x
  obtain rfl:spot=none:=hs _ rfl
  refine ⟨false,(zs.take len).map (BitVec.ofInt 8),B,f,by simp; omega,hl,hm,fun h=>Bool.noConfusion h,fun r i hr=>.inr (.inl ⟨rfl,B,f,hr,rfl⟩),fun r j y e=>?_⟩
  have hj:j<len:=by
   rcases Nat.lt_or_ge j len with h|h
   ·exact h
   ·rw [List.getElem?_eq_none (by simpa [bts,flat] using h)] at e; cases e
  have e2:y=.w8 (L ((zs.take len).map (BitVec.ofInt 8)) j):=by
   simp only [bts,flat,List.append_nil,List.getElem?_map,Option.map_eq_some_iff] at e
   obtain ⟨i,hi,rfl⟩:=e
   rw [List.getElem?_range (by omega)] at hi
   injection hi with hi
   subst hi
   have:=winF_at 0 len (L ((zs.take len).map (BitVec.ofInt 8))) hj
   rwa [Nat.zero_add] at this
  subst e2
  have hc1:=hc j (by omega)
  have ha:(⟨B,f,none⟩:Addr).add j=⟨B,f+j,none⟩:=by unfold Addr.add; simp
  rw [ha] at hc1
  refine ⟨_,hc1,?_,fun h=>Bool.noConfusion h⟩
  show Value.int .u8 _=Value.int .u8 _
  congr 1
  have hjz:j<zs.length:=by omega
  have h3:zs.getD j 0=zs[j]:=by rw [List.getD_eq_getElem?_getD,List.getElem?_eq_getElem hjz]; rfl
  have h4:L ((zs.take len).map (BitVec.ofInt 8)) j=BitVec.ofInt 8 zs[j]:=by
   rw [L_lt (by simp; omega)]
   simp
  rw [h3,h4]
  exact wf_w8 (hw _ (List.getElem_mem _))
def AllAt (R:Rho) (w:World):List (List Seg)→Rho→Prop
 | [],[]=>True
 | ch::h,(B,f)::r=>At false R w B f (flat ch)∧AllAt R w h r
 | _,_=>False
theorem AllAt.len {R:Rho} {w:World}:∀ {h:List (List Seg)} {r:Rho},AllAt R w h r→r.length=h.length
 | [],[],_=>rfl
 | _::h,_::r,k=>by rw [List.length_cons,List.length_cons,AllAt.len k.2]
 | [],_::_,k=>k.elim
 | _::_,[],k=>k.elim
theorem AllAt.get {R:Rho} {w:World}:∀ {h:List (List Seg)} {r:Rho},AllAt R w h r→∀ (i:Nat) (ch:List Seg) (B f:Nat),h[i]?=some ch→r[i]?=some (B,f)→At false R w B f (flat ch)
 | [],[],_,i,_,_,_,e,_=>by simp at e
 | c::h,(B',f')::r,k,0,_,_,_,e1,e2=>by
  simp at e1 e2
  obtain ⟨rfl,rfl⟩:=e2
  subst e1
  exact k.1
 | c::h,(B',f')::r,k,i+1,_,_,_,e1,e2=>k.2.get i _ _ _ (by simpa using e1) (by simpa using e2)
theorem heapOk_ro {P:Program} {T:List (Nat × TD)} {w:World} {r0:Rho} {h0:List (List Seg)} (hat:AllAt r0 w h0 r0) (hp:∀ (i:Nat) (W:World) (ms:List Nat),h0[i]?=some [.past W ms]→W=w):HeapOk (cx0 P T w r0 h0.length h0) h0 r0 w:=by
 have hlen:=hat.len
 have hget:∀ i,h0[i]?=some (getH h0 i)∨h0[i]?=none:=fun i=>by
  rcases Nat.lt_or_ge i h0.length with h|h
  ·exact .inl (by rw [List.getElem?_eq_getElem h]; have:=getH_eq h0 i; rw [List.getElem?_eq_getElem h] at this; simpa using this.symm)
  ·exact .inr (List.getElem?_eq_none h)
 have out:∀ (i:Nat) (x:Nat × Nat),h0.length≤i→r0[i]?=some x→False:=fun i x hi e=>by
  rw [List.getElem?_eq_none (by omega)] at e; cases e
 refine ⟨Ext.refl _ _,RLe.refl _,Nat.le_of_eq hlen.symm,hlen,fun i ch B f hi hr=>?_,fun i B f ho hr=>(out i _ ho hr).elim,fun i B f ho hr=>(out i _ ho hr).elim,fun i B f ho hl hr=>?_,fun i ch ho hl hi=>?_,fun i j B f f' ch ch' hij o1 o2 h1 h2 r1 r2=>(out i _ o1 r1).elim,fun i m B f ho _ hr=>(out i _ ho hr).elim,fun i W ms hi=>?_⟩
 ·have hil:i<h0.length:=(List.getElem?_eq_some_iff.1 hi).1
  have:Nat.ble h0.length i=false:=by
   cases e:Nat.ble h0.length i
   ·rfl
   ·have:=ble_le e; omega
  show At (Nat.ble h0.length i) _ _ _ _ _
  rw [this]
  exact hat.get i ch B f hi hr
 ·refine ⟨?_,?_⟩
  ·show B ∉ (r0.drop h0.length).map (·.1)
   rw [List.drop_eq_nil_of_le (by omega)]
   simp
  ·rcases hget i with e|e
   ·exact (hat.get i _ B f e hr).lt hl
   ·rw [List.getElem?_eq_none_iff] at e
    exact (out i _ e hr).elim
 ·have hl:¬ flat (getH h0 i)≠[]:=hl
  rcases hget i with e|e
  ·rw [hi] at e
   injection e with e
   rw [e]
   exact Classical.not_not.1 hl
  ·rw [hi] at e; cases e
 ·obtain rfl:=hp i W ms hi
  exact ⟨Ext.refl _ _,fun B _ h2 h3=>⟨i,_,ms,hi,h2,h3⟩,fun j B f ho hr=>(out j _ ho hr).elim⟩
end Sx
end
section
namespace Sx
open Go.RowKit Go.ChangeShapes Go.WideShapes Sha Vi

theorem isL_nil (r:Rho):IsL r [] []:=⟨rfl,fun j x e=>by simp at e⟩
theorem isL_cons {r:Rho} {x:SC} {v:Value} {l:List SC} {vs:List Value} (h:x.Is r v) (hs:IsL r l vs):IsL r (x::l) (v::vs) :=
 ⟨by simpa using hs.1,fun j y e=>by
  cases j with
  | zero=>simp at e; subst e; exact ⟨v,rfl,h⟩
  | succ j=>exact hs.2 j y e⟩
end Sx
end
section
namespace Sx
open Go.RowKit Go.ChangeShapes Go.WideShapes Sha Vi Ev

theorem FnR.lawP {P:Program} {T:List (Nat × TD)} {f:FuncId} {args:List SA} {w:World} {vs:List Value} (h:FnR P T f 1 [[.past w []]] args (fun _=>True) (fun x _=>x=.a (.c (.bool true))))
  (ha:IsAs [(0,0)] args vs):Calls P f vs.toArray w fun e w'=>e=.returned (.bool true)∧Below w.heap.size w w':=by
 have hat:AllAt [(0,0)] w [[.past w []]] [(0,0)]:=⟨fun j x e=>by simp [flat] at e,trivial⟩
 refine (h w [(0,0)] vs (heapOk_ro hat (fun i W ms e=>?_)) ha trivial).mono ?_
 ·cases i with
  | zero=>simp at e; exact e.1.symm
  | succ i=>simp at e
 ·rintro e w' ⟨v,x,hs,r',rfl,hx,hok,rfl⟩
  obtain rfl:v=.bool true:=hx
  refine ⟨rfl,?_⟩
  have e:Ext (([((0:Nat),(0:Nat))].drop 1).map (·.1)) w w':=hok.ext
  exact e.below0
theorem cell_block {w:World} {a:Addr} {v:Value} (h:w.cell? a=some v):a.block<w.heap.size:=by
 unfold World.cell? at h
 rcases Nat.lt_or_ge a.block w.heap.size with hb|hb
 ·exact hb
 ·rw [Array.getElem?_eq_none hb] at h; cases h
theorem row_bs {w:World} {a:Option Addr} {n c:Nat} {zs:List Int} (h:IsRow .u8 w a n c zs) (hs:∀ x,a=some x→x.spot=none):∃ l:Bs,BsAt w [] a n c l:=by
 obtain ⟨z,l,B,f,hI⟩:=open_b8 h hs
 rcases h with ⟨rfl,rfl,rfl,rfl⟩|⟨x,rfl,hl,hm,hz,hc,hw⟩
 ·exact ⟨[],SlAt.nul⟩
 ·obtain ⟨B,f,spot⟩:=x
  obtain rfl:spot=none:=hs _ rfl
  have hcap:=hI.cap
  refine ⟨(zs.take n).map (BitVec.ofInt 8),by simp; omega,hl,by unfold maxLen at hcap; omega,(fun e=>by cases e),fun x e h0=>?_⟩
  injection e with e
  subst e
  refine ⟨rfl,?_,List.not_mem_nil,fun j y e=>?_⟩
  ·have:=cell_block (hc 0 (by omega))
   simpa [Addr.add] using this
  ·have hj:j<n:=by
    have:=(List.getElem?_eq_some_iff.1 e).1
    simp at this; omega
   have hjz:j<zs.length:=by omega
   have ha:(⟨B,f,none⟩:Addr).add j=⟨B,f+j,none⟩:=by unfold Addr.add; simp
   have hc1:=hc j (by omega)
   rw [ha] at hc1
   refine ⟨_,hc1,?_⟩
   rw [List.getElem?_map,List.getElem?_map,List.getElem?_take,if_pos hj,List.getElem?_eq_getElem hjz] at e
   simp only [Option.map_some,Option.some.injEq] at e
   subst e
   show Value.int .u8 _=Value.int .u8 _
   congr 1
   have h3:zs.getD j 0=zs[j]:=by rw [List.getD_eq_getElem?_getD,List.getElem?_eq_getElem hjz]; rfl
   rw [h3]
   exact wf_w8 (hw _ (List.getElem_mem _))
theorem row_ns {w:World} {a:Option Addr} {n c:Nat} {zs:List Int} (h:IsRow .u64 w a n c zs) (hs:∀ x,a=some x→x.spot=none):∃ l:List (BitVec 64),NsAt w [] a n c l:=by
 rcases h with ⟨rfl,rfl,rfl,rfl⟩|⟨x,rfl,hl,hm,hz,hc,hw⟩
 ·exact ⟨[],SlAt.nul⟩
 ·obtain ⟨B,f,spot⟩:=x
  obtain rfl:spot=none:=hs _ rfl
  have hcap:c≤maxLen:=hm
  refine ⟨(zs.take n).map (BitVec.ofInt 64),by simp; omega,hl,by unfold maxLen at hcap; omega,(fun e=>by cases e),fun x e h0=>?_⟩
  injection e with e
  subst e
  refine ⟨rfl,?_,List.not_mem_nil,fun j y e=>?_⟩
  ·have:=cell_block (hc 0 (by omega))
   simpa [Addr.add] using this
  ·have hj:j<n:=by
    have:=(List.getElem?_eq_some_iff.1 e).1
    simp at this; omega
   have hjz:j<zs.length:=by omega
   have ha:(⟨B,f,none⟩:Addr).add j=⟨B,f+j,none⟩:=by unfold Addr.add; simp
   have hc1:=hc j (by omega)
   rw [ha] at hc1
   refine ⟨_,hc1,?_⟩
   rw [List.getElem?_map,List.getElem?_map,List.getElem?_take,if_pos hj,List.getElem?_eq_getElem hjz] at e
   simp only [Option.map_some,Option.some.injEq] at e
   subst e
   show Value.int .u64 _=Value.int .u64 _
   congr 1
   have h3:zs.getD j 0=zs[j]:=by rw [List.getD_eq_getElem?_getD,List.getElem?_eq_getElem hjz]; rfl
   rw [h3]
   exact wf_w64 (hw _ (List.getElem_mem _))
section
variable {H : Type} {enc : TypeId × Value → H} {P : Program} {w : World} {base : Nat} {held : Bool}
theorem raw_b8 {t e:TypeId} {fuel:Nat} {cs:List Value} {y:DataW H × List MemPlace} (ht:P.underlying t=some (.slice e)) (he:P.underlying e=some (.int .u8)) (hc:P.cellsOf e=1)
  (h:DataW.trod enc P w base (fun _=>true) held fuel t cs=some y):∃ (a:Option Addr) (n c:Nat) (l:Bs),cs=[.slice a n c]∧BsAt w [] a n c l:=by
 rcases open_ints ht he hc h with ⟨rfl,_⟩|⟨x,n,c,zs,rfl,_,hl,hm,hz,_,hcell,hwz⟩
 ·exact ⟨none,0,0,[],rfl,SlAt.nul⟩
 ·have hz:zs.length=c:=by simpa using hz
  rcases Nat.eq_zero_or_pos c with hc0|hc0
  ·subst hc0
   obtain rfl:n=0:=by omega
   exact ⟨_,0,0,[],rfl,by simp,Nat.le_refl _,by decide,fun _=>rfl,fun x e h0=>absurd rfl h0⟩
  ·obtain ⟨l,hl⟩:=row_bs (w:=w) (n:=n) (c:=c) (zs:=zs) (.inr ⟨x,rfl,hl,hm,hz,fun i hi=>hcell i hi,hwz⟩) (fun y e=>by
    cases e
    have:=World.cell?_spot (hcell 0 (by omega))
    simpa [Addr.add] using this)
   exact ⟨_,n,c,l,rfl,hl⟩
theorem raw_n64 {t e:TypeId} {fuel:Nat} {cs:List Value} {y:DataW H × List MemPlace} (ht:P.underlying t=some (.slice e)) (he:P.underlying e=some (.int .u64)) (hc:P.cellsOf e=1)
  (h:DataW.trod enc P w base (fun _=>true) held fuel t cs=some y):∃ (a:Option Addr) (n c:Nat) (l:List (BitVec 64)),cs=[.slice a n c]∧NsAt w [] a n c l:=by
 rcases open_ints ht he hc h with ⟨rfl,_⟩|⟨x,n,c,zs,rfl,_,hl,hm,hz,_,hcell,hwz⟩
 ·exact ⟨none,0,0,[],rfl,SlAt.nul⟩
 ·have hz:zs.length=c:=by simpa using hz
  rcases Nat.eq_zero_or_pos c with hc0|hc0
  ·subst hc0
   obtain rfl:n=0:=by omega
   exact ⟨_,0,0,[],rfl,by simp,Nat.le_refl _,by decide,fun _=>rfl,fun x e h0=>absurd rfl h0⟩
  ·obtain ⟨l,hl⟩:=row_ns (w:=w) (n:=n) (c:=c) (zs:=zs) (.inr ⟨x,rfl,hl,hm,hz,fun i hi=>hcell i hi,hwz⟩) (fun y e=>by
    cases e
    have:=World.cell?_spot (hcell 0 (by omega))
    simpa [Addr.add] using this)
   exact ⟨_,n,c,l,rfl,hl⟩
end
section
theorem isL_head {r:Rho} {x:SC} {v:Value} (h:IsL r [x] [v]):x.Is r v:=by
 obtain ⟨u,e,hu⟩:=h.2 0 x rfl
 injection e with e
 rw [e]; exact hu
variable {H : Type} {enc : TypeId × Value → H} {w : World} {base : Nat} {held : Bool}
theorem one_k8 {P:Program} {t:TypeId} {fuel:Nat} {cs:List Value} {y:DataW H × List MemPlace} (ht:P.underlying t=some (.int .u8)) (h:DataW.trod enc P w base (fun _=>true) held fuel t cs=some y):∃ b:BitVec 8,∀ r:Rho,IsL r [.w8 b] cs:=by
 obtain ⟨x,rfl,_,wx⟩:=DataW.trod_int ht h
 exact ⟨BitVec.ofInt 8 x,fun r=>isL_cons (congrArg _ (wf_w8 wx)) (isL_nil r)⟩
theorem one_t64 {P:Program} {t:TypeId} {fuel:Nat} {cs:List Value} {y:DataW H × List MemPlace} (ht:P.underlying t=some (.int .u64)) (h:DataW.trod enc P w base (fun _=>true) held fuel t cs=some y):∃ b:BitVec 64,∀ r:Rho,IsL r [.w64 b] cs:=by
 obtain ⟨x,rfl,_,wx⟩:=DataW.trod_int ht h
 exact ⟨BitVec.ofInt 64 x,fun r=>isL_cons (congrArg _ (wf_w64 wx)) (isL_nil r)⟩
set_option maxRecDepth 100000 in
theorem open_ev {fuel:Nat} {cs:List Value} {y:DataW H × List MemPlace} (hl:cs.length=4) (hf:DataW.trod enc Tryd.prog w base (fun _=>true) held fuel 27 cs=some y) :
  ∃ (e:Ev) (x:EvC),EvAt w [] x e∧∀ r:Rho,IsL r (flat (evS e x)) cs:=by
 obtain ⟨xs,n,_,_,_,hxl,hg⟩:=DataW.trod_struct Tryd.underlying27 hf
 match cs,hl with
 | [c0,c1,c2,c3],_ =>
  match xs,hxl with
  | [y0,y1,y2,y3],_ =>
   obtain ⟨k,h0⟩:=one_k8 (P:=Tryd.prog) (cs:=[c0]) (y:=y0) Tryd.underlying22 (hg 0 _ rfl)
   obtain ⟨t,h1⟩:=one_t64 (P:=Tryd.prog) (cs:=[c1]) (y:=y1) Tryd.underlying23 (hg 1 _ rfl)
   obtain ⟨aN,nN,cN,N,e2,hN⟩:=raw_n64 (P:=Tryd.prog) (cs:=[c2]) (y:=y2) Tryd.underlying24 Tryd.underlying23 (by kernel_rfl) (hg 2 _ rfl)
   obtain ⟨aD,nD,cD,D,e3,hD⟩:=raw_b8 (P:=Tryd.prog) (cs:=[c3]) (y:=y3) Tryd.underlying25 Tryd.underlying5 (by kernel_rfl) (hg 3 _ rfl)
   injection e2 with e2; injection e3 with e3
   subst e2; subst e3
   exact ⟨⟨k,t,N,D⟩,⟨aN,nN,cN,aD,nD,cD⟩,⟨hN,hD⟩,fun r=>isL_cons (isL_head (h0 r)) (isL_cons (isL_head (h1 r)) (isL_cons rfl (isL_cons rfl (isL_nil r))))⟩
set_option maxRecDepth 100000 in
theorem open_evs {rc:Reach} {b0:Nat} {v:Value} {d:DataW H} {p:List MemPlace} (hval:Value.okWide Tryd.prog w rc b0 30 v) (h:DataW.Trod enc Tryd.prog w base (fun _=>true) held 30 v d p) :
  ∃ (a:Option Addr) (n c:Nat) (es:List Ev),v=.slice a n c∧EvsAt w [] a n c es:=by
 obtain ⟨a0,n0,c0,rfl⟩:=okWide_slice Tryd.underlying30 hval
 have hspot:=okWide_spot Tryd.underlying30 hval
 obtain ⟨fuel,hf⟩:=h
 rcases DataW.trod_slice Tryd.underlying30 hf with ⟨hcs,_⟩|⟨a,len,cap,elems,rest,m,_,hcs,_,hb,hl,hm,hlen,hel,_,_⟩
 ·simp [Value.cells] at hcs
  obtain ⟨rfl,rfl,rfl⟩:=hcs
  exact ⟨none,0,0,[],rfl,EvsAt.nul⟩
 simp [Value.cells] at hcs
 obtain ⟨rfl,rfl,rfl⟩:=hcs
 have hsz:Tryd.prog.cellsOf 27=4:=by kernel_rfl
 rw [hsz] at hel
 obtain ⟨B,f,sp⟩:=a
 obtain rfl:sp=none:=hspot _ rfl
 have each:∀ k,∃ y:Ev,k<n0→∃ x,ImAt w [] ((⟨B,f,none⟩:Addr).add (k*4)) (flat (evS y x))∧EvAt w [] x y:=by
  intro k
  by_cases hk:k<n0
  ·have h1:=hel k hk
   rw [List.getElem?_eq_getElem (by omega),Option.bind_eq_some_iff] at h1
   obtain ⟨cs,hcs,ht⟩:=h1
   obtain ⟨hb',hlen',hget⟩:=World.cells?_some hcs
   obtain ⟨e,x,hx,hi⟩:=open_ev hlen' ht
   refine ⟨e,fun _=>⟨x,⟨?_,?_,List.not_mem_nil,fun j y he=>?_⟩,hx⟩⟩
   ·simp only [Addr.add]; split <;> rfl
   ·have h0:=hget 0 (by omega)
    rw [List.getElem?_eq_getElem (by omega)] at h0
    exact cell_block h0
   ·obtain ⟨v,e1,e2⟩:=(hi []).2 j y he
    have hj:j<4:=(List.getElem?_eq_some_iff.1 he).1
    refine ⟨v,?_,e2⟩
    have h0:=hget j hj
    rw [e1] at h0
    rw [← h0]
    congr 1
    simp only [Addr.add]
    split <;> split <;> simp <;> omega
  ·exact ⟨⟨0#8,0#64,[],[]⟩,fun h=>absurd h hk⟩
 obtain ⟨g,hg⟩:=Classical.axiomOfChoice each
 refine ⟨some ⟨B,f,none⟩,n0,c0,(List.range n0).map g,rfl,by simp,hl,by (have:c0≤maxLen:=hm; unfold maxLen at this; omega),(fun e=>by cases e),fun A hA k e he=>?_⟩
 cases hA
 have hk:k<n0:=by have:=(List.getElem?_eq_some_iff.1 he).1; simpa using this
 rw [List.getElem?_map,List.getElem?_range hk] at he
 injection he with he
 subst he
 exact hg k hk
end
end Sx
end
section
namespace Sx
open Go.RowKit Go.ChangeShapes Go.WideShapes Sha Vi Ev

theorem FnR.frzW {P:Program} {T:List (Nat × TD)} {f:FuncId} {n:Nat} {h0:List (List Seg)} {args:List SA} {raw:World→Prop} {Res Res':SV→List (List Seg)→Prop} (h:FnR P T f n h0 args raw Res)
  (k:∀ (w:World) (r0:Rho) x hs,r0.length=h0.length→Res x hs→FinW (cx0 P T w r0 n h0) x hs Res'):FnR P T f n h0 args raw Res' :=
 fun w r0 vs ok ha hr=>(h w r0 vs ok ha hr).mono fun _ _ ⟨v,x,hs,r',e,h1,h2,h3⟩=>by
  obtain ⟨x',hs',r'',a,b,c⟩:=k w r0 x hs ok.len h3 r' _ v h2 h1
  exact ⟨v,x',hs',r'',e,a,b,c⟩
set_option maxRecDepth 20000 in
theorem fn_erowF {W:World} {ms:List Nat} {a:Option Addr} {n c:Nat} {es:List Ev} (h:EvsAt W ms a n c es) {aK:Option Addr} {nK cK:Nat} {ks:Bs} (hK:BsAt W ms aK nK cK ks) (hl:∀ e∈es,e.N.length≤30∧e.D.length≤100) (hn60:n≤60) :
  FnR Tryd.prog tds 21 1 [[.past W ms]] [.c (.slc a n c),.c (.slc aK nK cK)] (fun _=>True)
  (fun y hs=>∃ a' c' W' ms',Later W ms W' ms'∧EvsAt W' ms' a' n c' (rowE ks es 0 0#64)∧y=.a (.c (.slc a' n c'))∧hs=[[.past W' ms']]):=by
 rcases Nat.eq_zero_or_pos n with hn|hn
 ·obtain rfl:es=[]:=List.length_eq_zero_iff.1 (by rw [h.len,hn])
  subst hn
  refine (fn_erow0 (W:=W) (ms:=ms) (a:=a) (c:=c) rfl (aK:=aK) (nK:=nK) (cK:=cK)).mono (fun y hs ⟨h1,h2⟩=>⟨none,0,W,ms,Later.refl _ _,EvsAt.nul,h1,h2⟩)
 ·refine (fn_erow h hK hl hn60 hn).frzW (fun w r0 y hs hr0 ⟨W1,ms1,cs,c',hL,hrow,hc,h1,h2⟩=>?_)
  obtain ⟨x0,rfl⟩:=List.length_eq_one_iff.1 hr0
  subst h1; subst h2
  refine finW_frz [0] rfl (Nat.zero_lt_one) cx0_m rfl (fun W9 ms9 α hL9 hI=>?_)
  have hrl:(rowE ks es 0 0#64).length=n:=by rw [rowE_len,h.len]
  refine ⟨.a (.c (.slc (some ((α 1).add (0+0))) n c')),[],⟨⟨rfl,rfl,rfl⟩,?_⟩,some ((α 1).add (0+0)),c',W9,ms9,hL.trans hL9,hrow.frz (F:=fun j=>!memB j [0]) hL9 (hI 1 rfl) hrl hc (by omega),rfl,rfl⟩
  (repeat first|exact trivial|refine ent1 ?_)
end Sx
end
section
namespace Sx
open Go.RowKit Sha Vi Js Ev Qj

theorem light2 {es:List Ev} (hL:lightE es=true):(∀ e∈es,e.N.length≤30∧e.D.length≤100)∧es.length≤60:=by
 unfold lightE at hL
 rw [Bool.and_eq_true] at hL
 exact ⟨of_decide_eq_true hL.1,of_decide_eq_true hL.2⟩
def LawA (W:World) (ms:List Nat) (y:SV) (hs:List (List Seg)):Prop:=∃ W' ms',Later W ms W' ms'∧y=.a (.c (.bool true))∧hs=[[.past W' ms']]
end Sx
end
section
namespace Js
open Sha
theorem blanks_more:∀ (l u:Bs) {c:BitVec 8} {r:Bs},blanks l=c::r→blanks (l++u)=c::(r++u)
 | [],_,_,_,h=>by cases h
 | d::l,u,c,r,h=>by
  rw [List.cons_append]
  unfold blanks at h ⊢
  split at h
  ·rename_i hb
   rw [if_pos hb]
   exact blanks_more l u h
  ·rename_i hb
   rw [if_neg hb]
   injection h with h1 h2
   subst h1; subst h2
   rfl
theorem unit_more {l r:Bs} {n:Nat} (u:Bs) (h:unit l=some (n,r)):unit (l++u)=some (n,r++u):=by
 match l,h with
 | a::b::c::d::e::f::t,h =>
  simp only [List.cons_append,unit] at h ⊢
  split at h
  ·rename_i g
   rw [if_pos g]
   split at h
   ·obtain ⟨h5,h6⟩:=Prod.mk.inj (Option.some.inj h)
    rw [h5,h6]
   ·cases h
  ·cases h
theorem coded_more {l r:Bs} {v:Nat} (u:Bs) (h:coded l=.ok v r):coded (l++u)=.ok v (r++u):=by
 unfold coded at h ⊢
 split at h
 ·cases h
 rename_i a t ha
 rw [unit_more u ha]
 dsimp only at h ⊢
 split at h
 ·rename_i g
  rw [if_pos g]
  obtain ⟨h1,h2⟩:=R.ok.inj h
  rw [h1,h2]
 rename_i g
 rw [if_neg g]
 split at h
 ·cases h
 rename_i g2
 rw [if_neg g2]
 split at h
 ·cases h
 rename_i b t2 hb
 rw [unit_more u hb]
 dsimp only at h ⊢
 split at h
 ·cases h
 rename_i g3
 rw [if_neg g3]
 obtain ⟨h1,h2⟩:=R.ok.inj h
 rw [h1,h2]
theorem esc_more {l r:Bs} {v:Nat} (u:Bs) (h:esc l=.ok v r):esc (l++u)=.ok v (r++u):=by
 match l,h with
 | a::c::t,h =>
  unfold esc at h
  dsimp only at h
  show esc (a::c::(t++u))=_
  unfold esc
  dsimp only
  split at h
  ·rename_i w hw
   injection h with h1 h2
   subst h1; subst h2
   rfl
  ·rename_i hw
   split at h
   ·rename_i g
    rw [if_pos g]
    exact coded_more u h
   ·cases h
theorem dec_more {l:Bs} (u:Bs) (hl:l≠[]) (h:¬ ((dec l).1=65533∧(dec l).2≤1)):dec (l++u)=dec l∧(dec l).2≤l.length:=by
 obtain ⟨h1,h2,h3,h4⟩:=dec_ok hl h
 refine ⟨?_,h4⟩
 have e:l=enc (dec l).1++l.drop (dec l).2:=by rw [← h3,List.take_append_drop]
 have:=dec_enc h1 (l.drop (dec l).2++u)
 rw [← List.append_assoc,← e] at this
 rw [this,← h2]
theorem ptext_more (u:Bs):∀ (f g:Nat) (l acc s r:Bs),f≤g→ptext f l acc=.ok s r→ptext g (l++u) acc=.ok s (r++u)
 | 0,_,_,_,_,_,_,h=>by cases h
 | f+1,g,[],_,_,_,_,h=>by cases h
 | f+1,0,c::l,acc,s,r,hg,h=>absurd hg (by omega)
 | f+1,g+1,c::l,acc,s,r,hg,h=>by
  rw [List.cons_append]
  unfold ptext at h ⊢
  split at h
  ·rename_i g1
   rw [if_pos g1]
   injection h with h1 h2
   subst h1; subst h2
   rfl
  rename_i g1
  rw [if_neg g1]
  split at h
  ·cases h
  rename_i g2
  rw [if_neg g2]
  split at h
  ·rename_i g3
   rw [if_pos g3]
   split at h
   ·cases h
   ·rename_i v t he
    have:=esc_more u he
    rw [List.cons_append] at this
    rw [this]
    exact ptext_more u f g t _ s r (by omega) h
  ·rename_i g3
   rw [if_neg g3]
   split at h
   ·cases h
   ·rename_i hb
    obtain ⟨e1,e2⟩:=dec_more u (by simp) hb
    rw [List.cons_append] at e1
    rw [e1,if_neg hb]
    have:=ptext_more u f g _ _ s r (by omega) h
    rw [show c::(l++u)=(c::l)++u from rfl,List.drop_append_of_le_length e2,List.take_append_of_le_length e2]
    exact this
theorem text_more {l s r:Bs} (u:Bs) (h:text l=.ok s r):text (l++u)=.ok s (r++u) :=
 ptext_more u _ _ _ _ _ _ (by rw [List.length_append]; omega) h
theorem pnum_more (u:Bs):∀ (l:Bs) (n m:Nat) (r:Bs),r≠[]→pnum n l=some (m,r)→pnum n (l++u)=some (m,r++u)
 | [],n,m,r,hr,h=>by
  unfold pnum at h
  injection h with h
  injection h with _ h
  exact absurd h.symm hr
 | c::l,n,m,r,hr,h=>by
  rw [List.cons_append]
  unfold pnum at h ⊢
  split at h
  ·rename_i g1
   rw [if_pos g1]
   split at h
   ·cases h
   ·rename_i g2
    rw [if_neg g2]
    exact pnum_more u l _ m r hr h
  ·rename_i g1
   rw [if_neg g1]
   injection h with h
   injection h with h1 h2
   subst h1; subst h2
   rfl
theorem number_more {l r:Bs} {n:Nat} (u:Bs) (hr:r≠[]) (h:number l=.ok n r):number (l++u)=.ok n (r++u):=by
 unfold number at h ⊢
 split at h
 ·cases h
 rename_i m t hp
 split at h
 ·cases h
 rename_i g
 injection h with h1 h2
 subst h1; subst h2
 rw [pnum_more u _ _ _ _ hr hp]
 dsimp only
 have hl:l≠[]:=by
  intro e
  subst e
  unfold pnum at hp
  injection hp with hp
  injection hp with _ hp
  exact hr hp.symm
 rw [if_neg]
 rw [head_app hl,List.length_append,List.length_append]
 intro ⟨a,b⟩
 exact g ⟨by omega,b⟩
def More (pv:Bs→R JT):Prop:=∀ l v r u,pv l=.ok v r→(v.k≠3#8∨r≠[])→pv (l++u)=.ok v (r++u)
theorem blanks_ne {l r:Bs} {c:BitVec 8} (h:blanks l=c::r):l≠[]:=by
 intro e; subst e; cases h
theorem plist_more {pv:Bs→R JT} (hm:More pv) (u:Bs):∀ (f g:Nat) (l:Bs) (acc:List JT) (v:JT) (r:Bs),f≤g→plist pv f l acc=.ok v r→plist pv g (l++u) acc=.ok v (r++u)
 | 0,_,_,_,_,_,_,h=>by cases h
 | f+1,0,l,acc,s,r,hg,h=>absurd hg (by omega)
 | f+1,g+1,l,acc,v,r,hg,h=>by
  unfold plist at h ⊢
  split at h
  ·cases h
  rename_i x t hx
  split at h
  ·cases h
  rename_i c t2 ht
  rw [hm _ _ _ u hx (.inr (blanks_ne ht))]
  dsimp only
  rw [blanks_more t u ht]
  dsimp only
  split at h
  ·rename_i g1
   rw [if_pos g1]
   exact plist_more hm u f g _ _ v r (by omega) h
  rename_i g1
  rw [if_neg g1]
  split at h
  ·rename_i g2
   rw [if_pos g2]
   injection h with h1 h2
   subst h1; subst h2
   rfl
  ·cases h
theorem lists_more {pv:Bs→R JT} (hm:More pv) (h0:pv []=.bad 23) {l:Bs} {v:JT} {r:Bs} (u:Bs) (h:lists pv l=.ok v r):lists pv (l++u)=.ok v (r++u):=by
 unfold lists at h ⊢
 split at h
 ·unfold plist at h
  rw [h0] at h
  cases h
 rename_i c t ht
 rw [blanks_more l u ht]
 dsimp only
 split at h
 ·rename_i g1
  rw [if_pos g1]
  injection h with h1 h2
  subst h1; subst h2
  rfl
 rename_i g1
 rw [if_neg g1]
 exact plist_more hm u _ _ _ _ _ _ (by simp) h
theorem pname_more {l s r:Bs} {ns:List Bs} (u:Bs) (h:pname l ns=.ok s r):pname (l++u) ns=.ok s (r++u):=by
 unfold pname at h ⊢
 split at h
 ·cases h
 rename_i c t ht
 rw [blanks_more l u ht]
 dsimp only
 split at h
 ·rename_i g1
  rw [if_pos g1]
  split at h
  ·cases h
  rename_i w t2 hw
  rw [text_more u hw]
  dsimp only
  split at h
  ·cases h
  rename_i g2
  rw [if_neg g2]
  split at h
  ·cases h
  rename_i c3 t3 h3
  rw [blanks_more t2 u h3]
  dsimp only
  split at h
  ·rename_i g3
   rw [if_pos g3]
   injection h with h1 h2
   subst h1; subst h2
   rfl
  ·cases h
 ·cases h
theorem pobj_more {pv:Bs→R JT} (hm:More pv) (u:Bs):∀ (f g:Nat) (l:Bs) (acc:List JT) (ns:List Bs) (v:JT) (r:Bs),f≤g→pobj pv f l acc ns=.ok v r→pobj pv g (l++u) acc ns=.ok v (r++u)
 | 0,_,_,_,_,_,_,_,h=>by cases h
 | f+1,0,l,acc,_,s,r,hg,h=>absurd hg (by omega)
 | f+1,g+1,l,acc,ns,v,r,hg,h=>by
  unfold pobj at h ⊢
  split at h
  ·cases h
  rename_i s t1 h1
  rw [pname_more u h1]
  dsimp only
  split at h
  ·cases h
  rename_i x t hx
  split at h
  ·cases h
  rename_i c t2 ht
  rw [hm _ _ _ u hx (.inr (blanks_ne ht))]
  dsimp only
  rw [blanks_more t u ht]
  dsimp only
  split at h
  ·rename_i g1
   rw [if_pos g1]
   exact pobj_more hm u f g _ _ _ v r (by omega) h
  rename_i g1
  rw [if_neg g1]
  split at h
  ·rename_i g2
   rw [if_pos g2]
   injection h with h1 h2
   subst h1; subst h2
   rfl
  ·cases h
theorem objs_more {pv:Bs→R JT} (hm:More pv) {l:Bs} {v:JT} {r:Bs} (u:Bs) (h:objs pv l=.ok v r):objs pv (l++u)=.ok v (r++u):=by
 unfold objs at h ⊢
 split at h
 ·cases h
 rename_i c t ht
 rw [blanks_more l u ht]
 dsimp only
 split at h
 ·rename_i g1
  rw [if_pos g1]
  injection h with h1 h2
  subst h1; subst h2
  rfl
 rename_i g1
 rw [if_neg g1]
 exact pobj_more hm u _ _ _ _ _ _ _ (by simp) h
theorem take_more {l m:Bs} {n:Nat} (u:Bs) (h:l.take n=m) (hm:m.length=n):(l++u).take n=m∧(l++u).drop n=l.drop n++u:=by
 have hn:n≤l.length:=by rw [← h,List.length_take] at hm; omega
 exact ⟨by rw [List.take_append_of_le_length hn,h],List.drop_append_of_le_length hn⟩
theorem word_more {l:Bs} {v:JT} {r:Bs} (u:Bs) (h:word l=.ok v r):word (l++u)=.ok v (r++u):=by
 unfold word at h ⊢
 split at h
 ·rename_i g1
  obtain ⟨e1,e2⟩:=take_more u g1 rfl
  rw [if_pos e1,e2]
  injection h with h1 h2
  subst h1; subst h2
  rfl
 rename_i g1
 split at h
 ·rename_i g2
  obtain ⟨e1,e2⟩:=take_more u g2 rfl
  have e3:(l++u).take 4=[102#8,97#8,108#8,115#8]:=by
   have:=congrArg (List.take 4) e1
   rw [List.take_take] at this
   exact this
  rw [if_neg (by rw [e3]; decide),if_pos e1,e2]
  injection h with h1 h2
  subst h1; subst h2
  rfl
 rename_i g2
 split at h
 ·rename_i g3
  obtain ⟨e1,e2⟩:=take_more u g3 rfl
  rw [if_neg (by rw [e1]; decide),if_neg,if_pos e1,e2]
  ·injection h with h1 h2
   subst h1; subst h2
   rfl
  ·intro e
   have:=congrArg (List.take 4) e
   rw [List.take_take] at this
   rw [show min 4 5=4 from rfl,e1] at this
   exact absurd this (by decide)
 ·cases h
theorem pone_more {kl ko:Bs→R JT} (hl:∀ l v r u,kl l=.ok v r→kl (l++u)=.ok v (r++u)) (ho:∀ l v r u,ko l=.ok v r→ko (l++u)=.ok v (r++u)):More (pone kl ko):=by
 intro l v r u h hr
 unfold pone at h ⊢
 split at h
 ·cases h
 rename_i c t ht
 rw [blanks_more l u ht]
 dsimp only
 split at h
 ·rename_i g1
  rw [if_pos g1]
  split at h
  ·cases h
  rename_i s t2 h2
  rw [text_more u h2]
  injection h with h1 h2
  subst h1; subst h2
  rfl
 rename_i g1
 rw [if_neg g1]
 split at h
 ·rename_i g2
  rw [if_pos g2]
  split at h
  ·cases h
  rename_i n t2 h2
  injection h with h1 h3
  subst h1; subst h3
  rw [← List.cons_append,number_more u (hr.resolve_left fun e=>e rfl) h2]
 rename_i g2
 rw [if_neg g2]
 split at h
 ·rename_i g3
  rw [if_pos g3]
  exact hl _ _ _ u h
 rename_i g3
 rw [if_neg g3]
 split at h
 ·rename_i g4
  rw [if_pos g4]
  exact ho _ _ _ u h
 rename_i g4
 rw [if_neg g4,← List.cons_append]
 exact word_more u h
theorem pval_nil (d:Nat):pval d []=.bad 23:=by cases d <;> rfl
theorem pval_more:∀ d,More (pval d)
 | 0=>pone_more (fun _ _ _ _ h=>by cases h) (fun _ _ _ _ h=>by cases h)
 | d+1=>pone_more (fun _ _ _ u h=>lists_more (pval_more d) (pval_nil d) u h) (fun _ _ _ u h=>objs_more (pval_more d) u h)
theorem pval_open (d:Nat) (t:Bs):pval (d+1) (123#8::t)=objs (pval d) t:=by
 show pone (lists (pval d)) (objs (pval d)) (123#8::t)=_
 unfold pone
 rw [blanks_of (by decide)]
 rfl
theorem parse_cut {t:Bs} {v:JT} (h:pval 8 (123#8::t)=.ok v []) {k:Nat} (hk:k<(123#8::t).length):∃ e,parse ((123#8::t).take k)=.bad e:=by
 unfold parse
 split
 ·exact ⟨_,rfl⟩
 split
 ·exact ⟨_,rfl⟩
 rename_i w r hp
 exfalso
 cases k with
 | zero=>rw [List.take_zero,pval_nil] at hp; cases hp
 | succ k =>
  rw [List.take_succ_cons,pval_open] at hp
  rw [pval_open] at h
  have h1:=objs_more (pval_more 7) (t.drop k) hp
  rw [List.take_append_drop,h] at h1
  injection h1 with _ h1
  have h2:=congrArg List.length h1
  rw [List.length_append,List.length_drop] at h2
  simp at hk h2
  omega
end Js
namespace Qj
open Sha Js Ev
theorem parseM_cut {es:List Ev} (h:prtM es=0) {k:Nat} (hk:k<(put 4 (rootJ es)).length):∃ e,parseM ((put 4 (rootJ es)).take k)=.inr e:=by
 obtain ⟨h8,e8⟩:=put_root h
 have hp:=pval_back 8 (rootJ es) [] h8 (by intro c r e; cases e)
 rw [List.append_nil,e8] at hp
 obtain ⟨t,ht⟩:∃ t,put 4 (rootJ es)=123#8::t:=⟨_,rfl⟩
 rw [ht] at hp hk ⊢
 obtain ⟨e,he⟩:=parse_cut hp hk
 exact ⟨e,by unfold parseM; rw [he]⟩
end Qj
end
section
namespace Qj
open Sha Js Ev
def wgt (d:Nat):List (Bs × JT)→Nat
 | []=>0
 | p::l=>((quote p.1).length+(put d p.2).length+2)+wgt d l
theorem wgt_app (d:Nat):∀ (A B:List (Bs × JT)),wgt d (A++B)=wgt d A+wgt d B
 | [],B=>by rw [List.nil_append]; show _=0+_; omega
 | p::A,B=>by
  rw [List.cons_append]
  show _+wgt d (A++B)=_+wgt d A+_
  rw [wgt_app d A B]
  omega
theorem putO_wgt (d:Nat):∀ (ns:List Bs) (l:List JT),ns.length=l.length→l≠[]→(putO (put d) ns l).length+1=wgt d (ns.zip l)
 | [],[],_,h=>absurd rfl h
 | [],_::_,h,_=>by cases h
 | _::_,[],h,_=>by cases h
 | s::ns,[x],h,_=>by
  have:ns=[]:=List.eq_nil_of_length_eq_zero (by simpa using h)
  subst this
  show (quote s++58#8::put d x).length+1=((quote s).length+(put d x).length+2)+0
  rw [List.length_append,List.length_cons]
  omega
 | s::ns,x::y::l,h,_=>by
  have:=putO_wgt d ns (y::l) (by simpa using h) (by simp)
  show (quote s++58#8::(put d x++44#8::putO (put d) ns (y::l))).length+1=((quote s).length+(put d x).length+2)+wgt d (ns.zip (y::l))
  rw [← this]
  simp only [List.length_append,List.length_cons]
  omega
theorem putO_mono {d e:Nat} {ns ms:List Bs} {l m:List JT} (h1:ns.length=l.length) (h2:ms.length=m.length) (h3:l.length=m.length) (h:wgt d (ns.zip l)≤wgt e (ms.zip m)):(putO (put d) ns l).length≤(putO (put e) ms m).length:=by
 by_cases h0:l=[]
 ·subst h0
  have:ns=[]:=List.eq_nil_of_length_eq_zero h1
  subst this
  exact Nat.zero_le _
 ·have hm:m≠[]:=by
   intro e
   subst e
   exact h0 (List.eq_nil_of_length_eq_zero h3)
  have a:=putO_wgt d ns l h1 h0
  have b:=putO_wgt e ms m h2 hm
  omega
theorem wgt_sub (d:Nat):∀ (P Z:List (Bs × JT)),(P.map Prod.fst).Nodup→(∀ p∈P,p∈Z)→wgt d P≤wgt d Z
 | [],_,_,_=>Nat.zero_le _
 | p::P,Z,hn,h=>by
  obtain ⟨A,B,rfl⟩:=List.append_of_mem (h p (List.mem_cons_self ..))
  rw [List.map_cons,List.nodup_cons] at hn
  have:=wgt_sub d P (A++B) hn.2 fun q hq=>by
   have h1:=h q (List.mem_cons_of_mem _ hq)
   rw [List.mem_append,List.mem_cons] at h1
   rw [List.mem_append]
   rcases h1 with h1|rfl|h1
   ·exact .inl h1
   ·exact absurd (List.mem_map_of_mem hq) hn.1
   ·exact .inr h1
  rw [wgt_app] at this ⊢
  show _+wgt d P≤_+(_+wgt d B)
  omega
theorem idxN_get {s:Bs}:∀ {l:List Bs} {i:Nat},idxN s l=some i→l[i]?=some s
 | [],_,h=>by cases h
 | x::l,i,h=>by
  unfold idxN at h
  split at h
  ·rename_i e
   injection h with h
   subst h; subst e
   rfl
  ·cases hx:idxN s l with
   | none=>rw [hx] at h; cases h
   | some j =>
    rw [hx] at h
    injection h with h
    subst h
    show (x::l)[j+1]?=some s
    rw [List.getElem?_cons_succ]
    exact idxN_get hx
theorem zip_mem {α β:Type} {l:List α} {m:List β} {i:Nat} {a:α} {b:β} (h1:l[i]?=some a) (h2:m[i]?=some b):(a,b)∈l.zip m :=
 List.mem_of_getElem? (List.getElem?_zip_eq_some.2 ⟨h1,h2⟩)
theorem memJ_zip {v x:JT} {s:Bs} {k:BitVec 8} (h:memJ v s k=some x):(s,x)∈v.ns.zip v.l∧x.k=k:=by
 unfold memJ at h
 split at h
 ·cases h
 rename_i i hi
 split at h
 ·cases h
 rename_i y hy
 split at h
 ·rename_i hk
  injection h with h
  subst h
  exact ⟨zip_mem (idxN_get hi) hy,hk⟩
 ·cases h
theorem put_num {d e:Nat} {x:JT} (h:x.k=3#8):put d x=put e (tNum x.n):=by
 have h1:∀ d,put d x=dig x.n.toNat:=fun d=>by
  cases d <;> (unfold put put1; rw [h]; rfl)
 rw [h1,put_leaf (leaf_num x.n)]
 rfl
theorem put_text {d e:Nat} {x:JT} (h:x.k=4#8):put d x=put e (tText x.s):=by
 have h1:∀ (d:Nat) (y:JT),y.k=4#8→put d y=quote y.s:=fun d y h=>by
  cases d <;> (unfold put put1; rw [h]; rfl)
 rw [h1 d x h,h1 e (tText x.s) rfl]
 rfl
theorem dig1_fin:∀ c:Fin 256,∀ x,dig1 (BitVec.ofNat 8 c.val)=some x→x.toNat<16∧hexd x.toNat=BitVec.ofNat 8 c.val:=by
 intro c x h
 have:∀ c:Fin 256,(match dig1 (BitVec.ofNat 8 c.val) with
  | none=>true
  | some x=>decide (x.toNat<16) && decide (hexd x.toNat=BitVec.ofNat 8 c.val))=true:=by decide +kernel
 have:=this c
 rw [h] at this
 dsimp only at this
 rw [Bool.and_eq_true] at this
 exact ⟨of_decide_eq_true this.1,of_decide_eq_true this.2⟩
theorem dig1_ok {c x:BitVec 8} (h:dig1 c=some x):x.toNat<16∧hexd x.toNat=c:=by
 have:=dig1_fin ⟨c.toNat,c.isLt⟩ x
 rw [show BitVec.ofNat 8 (⟨c.toNat,c.isLt⟩:Fin 256).val=c from b8_self c] at this
 exact this h
theorem nib_fin:∀ a b:Fin 16,(BitVec.ofNat 8 a.val <<< 4 ||| BitVec.ofNat 8 b.val).toNat / 16=a.val∧(BitVec.ofNat 8 a.val <<< 4 ||| BitVec.ofNat 8 b.val).toNat % 16=b.val:=by decide +kernel
theorem nib_ok {a b:BitVec 8} (ha:a.toNat<16) (hb:b.toNat<16):(a <<< 4 ||| b).toNat / 16=a.toNat∧(a <<< 4 ||| b).toNat % 16=b.toNat:=by
 have:=nib_fin ⟨a.toNat,ha⟩ ⟨b.toNat,hb⟩
 rw [show BitVec.ofNat 8 a.toNat=a from b8_self a,show BitVec.ofNat 8 b.toNat=b from b8_self b] at this
 exact this
theorem hex_unhex:∀ (s D:Bs),unhex s=some D→hexB D=s
 | [],D,h=>by injection h with h; subst h; rfl
 | [_],D,h=>by cases h
 | a::b::l,D,h=>by
  unfold unhex at h
  split at h
  ·rename_i x y hx hy
   cases hl:unhex l with
   | none=>rw [hl] at h; cases h
   | some E =>
    rw [hl] at h
    injection h with h
    subst h
    obtain ⟨x1,x2⟩:=dig1_ok hx
    obtain ⟨y1,y2⟩:=dig1_ok hy
    obtain ⟨n1,n2⟩:=nib_ok x1 y1
    have:=hex_unhex l E hl
    show hexd _::hexd _::hexB E=_
    rw [n1,n2,x2,y2,this]
  ·cases h
theorem nums_wgt {v:JT} (d:Nat):∀ (S:List Bs) (N:List (BitVec 64)),nums v S=some N→N.length=S.length∧∃ P:List (Bs × JT),P.map Prod.fst=S∧(∀ p∈P,p∈v.ns.zip v.l)∧wgt 0 (S.zip (N.map tNum))=wgt d P
 | [],N,h=>by
  injection h with h
  subst h
  exact ⟨rfl,[],rfl,(fun p hp=>by cases hp),rfl⟩
 | s::S,N,h=>by
  unfold nums at h
  split at h
  ·cases h
  rename_i x hx
  cases hS:nums v S with
  | none=>rw [hS] at h; cases h
  | some M =>
   rw [hS] at h
   injection h with h
   subst h
   obtain ⟨h1,P,h2,h3,h4⟩:=nums_wgt d S M hS
   obtain ⟨g1,g2⟩:=memJ_zip hx
   refine ⟨by rw [List.length_cons,List.length_cons,h1],(s,x)::P,by rw [List.map_cons,h2],fun p hp=>?_,?_⟩
   ·rcases List.mem_cons.1 hp with rfl|hp
    ·exact g1
    ·exact h3 p hp
   ·show (quote s).length+(put 0 (tNum x.n)).length+2+wgt 0 (S.zip (M.map tNum))=(quote s).length+(put d x).length+2+wgt d P
    rw [h4,put_num (d:=d) (e:=0) g2]
theorem hasJ_ok {v:JT} {m:Nat} (h:¬ hasJ v m=false):v.k=6#8∧v.ns.length=m∧v.l.length=m:=by
 have h1:hasJ v m=true:=by simpa using h
 unfold hasJ at h1
 rw [Bool.and_eq_true,Bool.and_eq_true] at h1
 exact ⟨of_decide_eq_true h1.1,of_decide_eq_true h1.2.1,of_decide_eq_true h1.2.2⟩
theorem put_obj {d:Nat} {v:JT} (h:v.k=6#8):(put (d+1) v).length=(putO (put d) v.ns v.l).length+2:=by
 show (put1 (putL (put d)) (putO (put d)) v).length=_
 unfold put1
 rw [h]
 show (123#8::(putO (put d) v.ns v.l++[125#8])).length=_
 rw [List.length_cons,List.length_append]
 rfl
theorem put_lst {d:Nat} {v:JT} (h:v.k=5#8):(put (d+1) v).length=(putL (put d) v.l).length+2:=by
 show (put1 (putL (put d)) (putO (put d)) v).length=_
 unfold put1
 rw [h]
 show (91#8::(putL (put d) v.l++[93#8])).length=_
 rw [List.length_cons,List.length_append]
 rfl
theorem fill_wgt {k:BitVec 8} (hk:evOk k=true) {v:JT} {N:List (BitVec 64)} {D:Bs} (t:BitVec 64) (d:Nat) (h:fillM k v=some (N,D)):(put 1 (dataJ ⟨k,t,N,D⟩)).length≤(put (d+1) v).length:=by
 obtain ⟨_,hnd,_,_⟩:=nm_ok hk
 unfold fillM at h
 split at h
 ·cases h
 rename_i hh
 obtain ⟨h1,h2,h3⟩:=hasJ_ok hh
 split at h
 ·cases h
 rename_i M hM
 obtain ⟨m1,P,m2,m3,m4⟩:=nums_wgt d _ _ hM
 have hN:∀ (N:List (BitVec 64)) (D:Bs),(dataJ ⟨k,t,N,D⟩).l=N.map tNum++(if evData k=true then [tText (hexB D)] else []):=fun _ _=>rfl
 have hdn:dataNs k=evNs k++if evData k=true then [idB] else []:=rfl
 split at h
 ·rename_i hd
  split at h
  ·cases h
  rename_i x hx
  cases hu:unhex x.s with
  | none=>rw [hu] at h; cases h
  | some E =>
   rw [hu] at h
   injection h with h
   injection h with e1 e2
   subst e1; subst e2
   obtain ⟨g1,g2⟩:=memJ_zip hx
   rw [put_obj (v:=dataJ ⟨k,t,M,E⟩) rfl,put_obj h1]
   rw [if_pos hd] at hdn
   have hns:(dataJ ⟨k,t,M,E⟩).ns=evNs k++[idB]:=hdn
   have hl:(dataJ ⟨k,t,M,E⟩).l=M.map tNum++[tText (hexB E)]:=by rw [hN,if_pos hd]
   have hw:wgt 0 ((evNs k++[idB]).zip (M.map tNum++[tText (hexB E)]))≤wgt d (v.ns.zip v.l):=by
    rw [List.zip_append (by rw [List.length_map,m1]),wgt_app,m4]
    have e3:wgt 0 ([idB].zip [tText (hexB E)])=wgt d [(idB,x)]:=by
     show (quote idB).length+(put 0 (tText (hexB E))).length+2+0=(quote idB).length+(put d x).length+2+0
     rw [hex_unhex _ _ hu,put_text (d:=d) (e:=0) g2]
    rw [e3,← wgt_app]
    refine wgt_sub d _ _ ?_ fun p hp=>?_
    ·rw [List.map_append,m2]
     rw [hdn] at hnd
     exact hnd
    ·rcases List.mem_append.1 hp with hp|hp
     ·exact m3 p hp
     ·rw [List.mem_singleton] at hp
      subst hp
      exact g1
   have:=putO_mono (d:=0) (e:=d) (ns:=evNs k++[idB]) (l:=M.map tNum++[tText (hexB E)]) (ms:=v.ns) (m:=v.l) (by simp [m1]) (by omega) (by rw [h3,hdn]; simp [m1]) hw
   rw [hns,hl]
   omega
 ·rename_i hd
  injection h with h
  injection h with e1 e2
  subst e1; subst e2
  rw [put_obj (v:=dataJ ⟨k,t,M,[]⟩) rfl,put_obj h1]
  rw [if_neg hd,List.append_nil] at hdn
  have hns:(dataJ ⟨k,t,M,[]⟩).ns=evNs k:=hdn
  have hl:(dataJ ⟨k,t,M,[]⟩).l=M.map tNum:=by rw [hN,if_neg hd,List.append_nil]
  have hw:wgt 0 ((evNs k).zip (M.map tNum))≤wgt d (v.ns.zip v.l):=by
   rw [m4]
   exact wgt_sub d _ _ (by rw [m2]; rw [hdn] at hnd; exact hnd) m3
  have:=putO_mono (d:=0) (e:=d) (ns:=evNs k) (l:=M.map tNum) (ms:=v.ns) (m:=v.l) (by simp [m1]) (by omega) (by rw [h3,hdn]; simp [m1]) hw
  rw [hns,hl]
  omega
theorem named_ok {s:Bs} {k:BitVec 8} (h:namedM s=some k):evNm k=s:=by
 have:∀ (f i:Nat),namedF s f i=some k→evNm k=s:=by
  intro f
  induction f with
  | zero=>intro i h; cases h
  | succ f ih =>
   intro i h
   unfold namedF at h
   split at h
   ·rename_i e
    injection h with h
    subst h
    exact e
   ·exact ih _ h
 exact this _ _ h
theorem ev_wgt {v:JT} {e:Ev} (d:Nat) (h:evOf v=.inl e):(put 2 (evJ e)).length≤(put (d+2) v).length∧checkM e=0:=by
 unfold evOf at h
 split at h
 rotate_left
 ·cases h
 rename_i a b c ha hb hc
 split at h
 ·cases h
 rename_i hh
 split at h
 ·cases h
 rename_i k hk
 split at h
 ·cases h
 rename_i N D hf
 split at h
 rotate_left
 ·cases h
 rename_i hck
 injection h with h
 subst h
 refine ⟨?_,hck⟩
 obtain ⟨h1,h2,h3⟩:=hasJ_ok hh
 obtain ⟨a1,a2⟩:=memJ_zip ha
 obtain ⟨b1,b2⟩:=memJ_zip hb
 obtain ⟨c1,c2⟩:=memJ_zip hc
 have hdat:(put 1 (dataJ ⟨k,a.n,N,D⟩)).length≤(put (d+1) c).length:=fill_wgt (k:=k) (check_ok hck).1 a.n d hf
 have hnm:=named_ok hk
 rw [put_obj (v:=evJ ⟨k,a.n,N,D⟩) rfl,put_obj h1]
 have hw:wgt 1 ([timeB,nameB,dataB].zip [tNum a.n,tText (evNm k),dataJ ⟨k,a.n,N,D⟩])≤wgt (d+1) (v.ns.zip v.l):=by
  refine Nat.le_trans ?_ (wgt_sub (d+1) [(timeB,a),(nameB,b),(dataB,c)] _ (show [timeB,nameB,dataB].Nodup from nd3) fun p hp=>?_)
  ·show (quote timeB).length+(put 1 (tNum a.n)).length+2+((quote nameB).length+(put 1 (tText (evNm k))).length+2+((quote dataB).length+(put 1 (dataJ ⟨k,a.n,N,D⟩)).length+2+0))≤(quote timeB).length+(put (d+1) a).length+2+((quote nameB).length+(put (d+1) b).length+2+((quote dataB).length+(put (d+1) c).length+2+0))
   rw [put_num (d:=d+1) (e:=1) a2,put_text (d:=d+1) (e:=1) b2,hnm]
   omega
  ·simp only [List.mem_cons,List.not_mem_nil,or_false] at hp
   rcases hp with rfl|rfl|rfl
   ·exact a1
   ·exact b1
   ·exact c1
 have:=putO_mono (d:=1) (e:=d+1) (ns:=[timeB,nameB,dataB]) (l:=[tNum a.n,tText (evNm k),dataJ ⟨k,a.n,N,D⟩]) (ms:=v.ns) (m:=v.l) rfl (by omega) (by rw [h3]; rfl) hw
 exact Nat.add_le_add_right this 2
theorem evsF_wgt (d:Nat):∀ (l:List JT) (t:BitVec 64) (es:List Ev),evsF l t=.inl es→es.length=l.length∧(putL (put 2) (es.map evJ)).length≤(putL (put (d+2)) l).length∧prtF es t=0
 | [],t,es,h=>by
  injection h with h
  subst h
  exact ⟨rfl,Nat.le_refl _,rfl⟩
 | x::l,t,es,h=>by
  unfold evsF at h
  split at h
  ·cases h
  rename_i e he
  split at h
  rotate_left
  ·cases h
  rename_i hf
  split at h
  ·cases h
  rename_i es' hes
  injection h with h
  subst h
  obtain ⟨h1,h2,h3⟩:=evsF_wgt d l e.t es' hes
  obtain ⟨g1,g2⟩:=ev_wgt d he
  have hemp:es'.isEmpty=l.isEmpty:=by
   cases es' <;> cases l <;> simp at h1 ⊢
  refine ⟨by rw [List.length_cons,List.length_cons,h1],?_,?_⟩
  ·cases l with
   | nil =>
    have:es'=[]:=List.eq_nil_of_length_eq_zero h1
    subst this
    exact g1
   | cons y l =>
    cases es' with
    | nil=>cases h1
    | cons f es' =>
     rw [putL_cons _ _ _ (by simp),List.map_cons,putL_cons _ _ _ (by simp),List.length_append,List.length_append,List.length_cons,List.length_cons]
     omega
  ·unfold prtF
   rw [if_neg (not_not_intro g2),hemp,if_neg (not_not_intro hf)]
   exact h3
theorem parseM_wgt {s:Bs} {es:List Ev} (h:parseM s=.inl es):prtM es=0∧(put 4 (rootJ es)).length≤3*s.length:=by
 unfold parseM at h
 split at h
 ·cases h
 rename_i v r hp
 have hlen:=(parse_ok hp).2
 split at h
 rotate_left
 ·cases h
 rename_i i y hi hy
 split at h
 ·cases h
 rename_i hh
 split at h
 ·cases h
 rename_i x hx
 split at h
 rotate_left
 ·cases h
 rename_i hv
 split at h
 ·cases h
 rename_i hmany
 obtain ⟨h1,h2,h3⟩:=evsF_wgt 4 _ _ _ h
 obtain ⟨k1,k2,k3⟩:=hasJ_ok hh
 obtain ⟨y1,y2⟩:=memJ_zip hy
 have x1:(verB,x)∈v.ns.zip v.l:=zip_mem (idxN_get hi) hx
 refine ⟨by unfold prtM; rw [if_neg (by omega)]; exact h3,Nat.le_trans ?_ hlen⟩
 rw [put_obj (v:=rootJ es) rfl,put_obj k1]
 have hw:wgt 3 ([verB,evsB].zip [tText v03B,.mk 5#8 0#64 [] (es.map evJ) []])≤wgt 7 (v.ns.zip v.l):=by
  refine Nat.le_trans ?_ (wgt_sub 7 [(verB,x),(evsB,y)] _ (show [verB,evsB].Nodup from nd2) fun p hp=>?_)
  ·show (quote verB).length+(put 3 (tText v03B)).length+2+((quote evsB).length+(put 3 (.mk 5#8 0#64 [] (es.map evJ) [])).length+2+0)≤(quote verB).length+(put 7 x).length+2+((quote evsB).length+(put 7 y).length+2+0)
   rw [put_text (d:=7) (e:=3) hv.1,hv.2,put_lst y2,put_lst (d:=2) (v:=.mk 5#8 0#64 [] (es.map evJ) []) rfl]
   have h4:(putL (put 2) (JT.mk 5#8 0#64 [] (es.map evJ) []).l).length≤(putL (put 6) y.l).length:=h2
   omega
  ·simp only [List.mem_cons,List.not_mem_nil,or_false] at hp
   rcases hp with rfl|rfl
   ·exact x1
   ·exact y1
 have:=putO_mono (d:=3) (e:=7) (ns:=[verB,evsB]) (l:=[tText v03B,.mk 5#8 0#64 [] (es.map evJ) []]) (ms:=v.ns) (m:=v.l) rfl (by omega) (by rw [k3]; rfl) hw
 exact Nat.add_le_add_right this 2
theorem parse_again {s:Bs} {es:List Ev} (h:parseM s=.inl es) (hs:s.length≤349525):prtM es=0∧(put 4 (rootJ es)).length≤3*s.length∧parseM (put 4 (rootJ es))=.inl es:=by
 obtain ⟨h1,h2⟩:=parseM_wgt h
 obtain ⟨h8,e8⟩:=put_root h1
 have hp:=parse_put h8 (by rw [e8]; omega)
 rw [e8] at hp
 exact ⟨h1,h2,parseM_back hp h1⟩
end Qj
end
section
namespace Sx
open Go.RowKit Sha Vi Js Ev Qj

def lit4:Bs:=([123,34,113,108,111,103,95,118,101,114,115,105,111,110,34,58,34,48,46,52,34,44,34,101,118,101,110,116,115,34,58,91,93,125]:List Nat).map (BitVec.ofNat 8)
def lit5:Bs:=([123,34,101,118,101,110,116,115,34,58,91,93,125]:List Nat).map (BitVec.ofNat 8)
theorem lit4_u8:({ data:=#[123,34,113,108,111,103,95,118,101,114,115,105,111,110,34,58,34,48,46,52,34,44,34,101,118,101,110,116,115,34,58,91,93,125] }:ByteArray).data.toList=U8 lit4:=by decide +kernel
theorem lit5_u8:({ data:=#[123,34,101,118,101,110,116,115,34,58,91,93,125] }:ByteArray).data.toList=U8 lit5:=by decide +kernel
theorem inr_of {α:Type} {x:α ⊕ Int} {c:Int} (h:(match x with|.inl _=>false|.inr e=>decide (e=c))=true):x=.inr c:=by
 cases x with
 | inl _=>cases h
 | inr e=>rw [of_decide_eq_true h]
theorem lit4_no:parseM lit4=.inr 12:=inr_of (by decide +kernel)
theorem lit5_no:parseM lit5=.inr 4:=inr_of (by decide +kernel)
theorem fn_qparseN {W:World} {ms:List Nat} (hT:Tabs W ms) (s:Bs) (hs0:s.length≤4611686018427387904) {e:Int} (he:parseM s=.inr e):FnR Tryd.prog tds 25 1 [[.past W ms]] [.c (.str (U8 s))] (fun _=>True)
  (fun y hs=>∃ W' ms',e≠0∧Later W ms W' ms'∧y=.tup [.c (.slc none 0 0),.c (.int .i64 e)]∧hs=[[.past W' ms']]) :=
 (fn_qparse' hT s hs0).mono fun y hs hr=>by
  rw [he] at hr
  obtain ⟨h1,W',ms',h2,h3,h4⟩:=hr
  exact ⟨W',ms',h1,h2,h3,h4⟩
def two (s z:Bs):Nat→SC:=nthC [.str (U8 s),.str (U8 z)]
theorem eqC_two {q:List Nat} {s z:Bs} {j:Nat} (h:j<2):eqC q (two s z j) (two s z j) True:=by
 have h2:j=0∨j=1:=by omega
 rcases h2 with rfl|rfl
 ·exact ⟨rfl,trivial⟩
 ·exact ⟨rfl,trivial⟩
set_option maxRecDepth 20000 in
set_option maxHeartbeats 16000000 in
theorem fn_qany {W:World} {ms:List Nat} (hT:Tabs W ms) {s:Bs} (hs9:s.length≤9223372036854775807) {a:Option Addr} {n c:Nat} {es:List Ev} (h:EvsAt W ms a n c es) {aK:Option Addr} {nK cK:Nat} {ks:Bs} (hK:BsAt W ms aK nK cK ks) (p:BitVec 16) (ch:BitVec 8) :
  FnR Tryd.prog tds 8 1 [[.past W ms]] [.c (.str (U8 s)),.c (.slc a n c),.c (.slc aK nK cK),.c (.w16 p),.c (.w8 ch)] (fun _=>True) (LawA W ms):=by
 have hlen:=h.len
 refine fn_of_bodyW tds_ok follows_ Tryd.func8 rfl (t:=.a (.c (.str (U8 s)))::.a (.c (.slc a n c))::.a (.c (.slc aK nK cK))::.a (.c (.w16 p))::.a (.c (.w8 ch))::anys (Tryd.f8.ntmps-5)) rfl (fun w r0 hr _=>?_)
 obtain ⟨x0,rfl⟩:=List.length_eq_one_iff.1 hr
 (repeat show _∧_;first|refine yr ?_|refine yt ?_|refine yf ?_|refine yo ?_)
 refine call_past (fn_qawake hT) 0 [] rfl rfl (by (repeat first|exact trivial|refine ent1 ?_)) (by (repeat first|exact trivial|refine ent1 ?_)) (fun _ _=>trivial) (fun x hs hr=>?_) ?_
 ·obtain ⟨W',ms',hL,_,rfl⟩:=hr
  exact ⟨W',ms',rfl,hL⟩
 rintro y hs ⟨W1,ms1,hL1,rfl,rfl⟩
 have hT1:=hT.later hL1
 by_cases hs3:300<s.length
 ·have e3:decide ((300:Int)<(((U8 s).length:Nat):Int))=true:=decide_eq_true (by rw [U8_len]; omega)
  (repeat show _∧_;first|refine yr ?_|refine yt ?_|refine yf ?_|refine yt ?_ (by first|decide|(rw[e3];decide))|refine yf ?_ (by first|decide|(rw[e3];decide))|refine yo ?_)
  exact FinW.of ⟨.a (.c (.bool true)),_,⟨[0],⟨rfl,rfl,rfl⟩,by (repeat first|exact trivial|refine ent1 ?_)⟩,W1,ms1,hL1,rfl,rfl⟩
 have e3:decide ((300:Int)<(((U8 s).length:Nat):Int))=false:=decide_eq_false (by rw [U8_len]; omega)
 (repeat show _∧_;first|refine yr ?_|refine yt ?_|refine yf ?_|refine yt ?_ (by first|decide|(rw[e3];decide))|refine yf ?_ (by first|decide|(rw[e3];decide))|refine yo ?_)
 refine call_same (fn_light (h.later hL1)) [0] rfl (by (repeat first|exact trivial|refine ent1 ?_)) (by (repeat first|exact trivial|refine ent1 ?_)) (fun _ _=>trivial) ?_
 rintro x hs' ⟨rfl,rfl⟩
 cases hL:lightE es
 ·(repeat show _∧_;first|refine yr ?_|refine yt ?_|refine yf ?_|refine yt ?_ (by first|decide|(rw[e3];decide))|refine yf ?_ (by first|decide|(rw[e3];decide))|refine yo ?_)
  exact FinW.of ⟨.a (.c (.bool true)),_,⟨[0],⟨rfl,rfl,rfl⟩,by (repeat first|exact trivial|refine ent1 ?_)⟩,W1,ms1,hL1,rfl,rfl⟩
 have hl2:=light2 hL
 by_cases hn2:20<n
 ·have e4:decide ((20:Int)<(n:Int))=true:=decide_eq_true (by omega)
  (repeat show _∧_;first|refine yr ?_|refine yt ?_|refine yf ?_|refine yt ?_ (by first|decide|(rw[e3];decide)|(rw[e4];decide))|refine yf ?_ (by first|decide|(rw[e3];decide)|(rw[e4];decide))|refine yo ?_)
  exact FinW.of ⟨.a (.c (.bool true)),_,⟨[0],⟨rfl,rfl,rfl⟩,by (repeat first|exact trivial|refine ent1 ?_)⟩,W1,ms1,hL1,rfl,rfl⟩
 have e4:decide ((20:Int)<(n:Int))=false:=decide_eq_false (by omega)
 (repeat show _∧_;first|refine yr ?_|refine yt ?_|refine yf ?_|refine yt ?_ (by first|decide|(rw[e3];decide)|(rw[e4];decide))|refine yf ?_ (by first|decide|(rw[e3];decide)|(rw[e4];decide))|refine yo ?_)
 refine call_past (fn_erowF (h.later hL1) (hK.later hL1) hl2.1 (by omega)) 0 [] rfl rfl (by (repeat first|exact trivial|refine ent1 ?_)) (by (repeat first|exact trivial|refine ent1 ?_)) (fun _ _=>trivial) (fun x hs hr=>?_) ?_
 ·obtain ⟨_,_,W',ms',hL,_,_,rfl⟩:=hr
  exact ⟨W',ms',rfl,hL⟩
 rintro y hs ⟨a2,c2,W2,ms2,hL2,hrow,rfl,rfl⟩
 have hT2:=hT1.later hL2
 obtain ⟨row,hrw⟩:∃ row,rowE ks es 0 0#64=row:=⟨_,rfl⟩
 have hrl:row.length=n:=by rw [← hrw,rowE_len,hlen]
 have hgood:GoodL 0#64 row:=by rw [← hrw]; exact (row_good ks es 0 0#64 (by decide)).1
 rw [hrw] at hrow
 have hpm:=prt_good hgood (by omega)
 have hrlen:=root_len hpm
 (repeat show _∧_;first|refine yr ?_|refine yt ?_|refine yf ?_|refine yo ?_)
 refine call_past (fn_qprint' hT2 hrow) 0 [] rfl rfl (by (repeat first|exact trivial|refine ent1 ?_)) (by (repeat first|exact trivial|refine ent1 ?_)) (fun _ _=>trivial) (fun x hs hr=>?_) ?_
 ·obtain ⟨W',ms',h1,rfl,_⟩:=hr
  exact ⟨W',ms',rfl,h1⟩
 rintro y hs ⟨W3,ms3,hL3,rfl,rfl⟩
 have hT3:=hT2.later hL3
 rw [hpm,if_pos rfl]
 have hcut:∀ k,k<(put 4 (rootJ row)).length→∃ e,parseM ((put 4 (rootJ row)).take k)=.inr e:=fun k hk=>parseM_cut hpm hk
 have hpos:0<(put 4 (rootJ row)).length:=by rw [show put 4 (rootJ row)=123#8::_ from rfl]; exact Nat.succ_pos _
 have hG:(put 4 (rootJ row)).length≤86320:=by omega
 generalize put 4 (rootJ row)=G at hcut hpos hG ⊢
 clear hrow hpm hrlen hgood hrw
 (repeat show _∧_;first|refine yr ?_|refine yt ?_|refine yf ?_|refine yo ?_)
 (repeat show _∧_;first|refine yr ?_|refine yt ?_|refine yf ?_|refine yo ?_)
 refine And.intro ⟨by omega,by rw [U8_len]; omega⟩ ?_
 (repeat show _∧_;first|refine yr ?_|refine yt ?_|refine yf ?_|refine yo ?_)
 have hkv:((p.toNat:Nat):Int) % (((U8 G).length:Nat):Int)=((p.toNat % G.length:Nat):Int):=by rw [U8_len]; rfl
 rw [hkv]
 have hk:p.toNat % G.length<G.length:=Nat.mod_lt _ hpos
 generalize p.toNat % G.length=k at hk ⊢
 refine ⟨none,[],[(0,true),(1,true),(2,true),(3,true),(7,true),(8,true),(9,true),(10,true),(4,false),(5,true),(6,true),(11,true),(12,true)],[],by kernel_rfl,?_⟩
 (repeat show _∧_;first|refine yr ?_|refine yt ?_|refine yf ?_|refine yo ?_)
 refine And.intro ⟨by omega,by omega,by rw [U8_len]; omega⟩ ?_
 refine frcN_of (m:=0) rfl ?_
 refine frcN_of (m:=k) (Int.toNat_natCast k) ?_
 (repeat show _∧_;first|refine yr ?_|refine yt ?_|refine yf ?_|refine yo ?_)
 refine And.intro ⟨by omega,by rw [U8_len]; omega,by omega⟩ ?_
 refine frcN_of (m:=k+1) (by omega) ?_
 refine frcN_of (m:=(U8 G).length) (Int.toNat_natCast _) ?_
 (repeat show _∧_;first|refine yr ?_|refine yt ?_|refine yf ?_|refine yo ?_)
 refine ⟨U8 [ch],⟨rfl,fun q hq=>?_⟩,?_⟩
 ·obtain rfl:q=0:=by have:q<1:=hq; omega
  rfl
 have hd1:(List.take (k-0) (List.drop 0 (U8 G)))=U8 (G.take k):=by rw [Nat.sub_zero,List.drop_zero,U8_take]
 have hd2:(List.take ((U8 G).length-(k+1)) (List.drop (k+1) (U8 G)))=U8 (G.drop (k+1)):=by
  rw [List.take_of_length_le (by rw [List.length_drop]; omega),U8_drop]
 rw [hd1,hd2]
 have hl1:(G.take k).length≤86320:=by rw [List.length_take]; omega
 have hl3:(G.drop (k+1)).length≤86320:=by rw [List.length_drop]; omega
 refine And.intro (by rw [U8_len]; show (G.take k).length+1≤_; omega) ?_
 refine And.intro (by rw [List.length_append,U8_len,U8_len]; rw [U8_len]; show (G.take k).length+1+(G.drop (k+1)).length≤_; omega) ?_
 (repeat show _∧_;first|refine yr ?_|refine yt ?_|refine yf ?_|refine yo ?_)
 have hTT:U8 (G.take k)++U8 [ch]++U8 (G.drop (k+1))=U8 (G.take k++[ch]++G.drop (k+1)):=by rw [app_u8,app_u8]
 have hTl:(G.take k++[ch]++G.drop (k+1)).length≤172641:=by
  rw [List.length_append,List.length_append]
  show (G.take k).length+1+_≤_
  omega
 rw [hTT]
 generalize G.take k++[ch]++G.drop (k+1)=T at hTl ⊢
 clear hTT hd1 hd2
 (repeat show _∧_;first|refine yr ?_|refine yt ?_|refine yf ?_|refine yo ?_)
 refine .inl ⟨World × List Nat × Nat,fun x=>match x with|(W',ms',j)=>⟨[.any,.any,.any,.any,.any,.any,.any,.any,.any,.any,.any,.a (.c (.str ((U8 G)))),.any,.a (.c (.int .i64 (((k:Nat):Int)))),.any,.any,.any,.any,.any,.any,.any,.any,.any,.any,.any,.any,.any,.any,.any,.any,.any,.any,.any,.any,.any,.any,.any,.any,.any,.any,.any,.any,.any,.any,.any,.any,.any,.any,.any,.any,.any,.any,.any,.any,.any,.any,.any,.any,.any,.any,.any,.any,.any,.any,.any,.any,.any,.any,.any,.any,.any,.any,.a (.c (.sl 1 0 0 2 2)),.a (.c (.int .i64 (((2:Nat):Int)))),.a (.c (.int .i64 (((j:Nat):Int)))),.any,.any,.any,.any,.any,.any,.any,.any,.any,.any,.any,.any,.any,.any,.any,.any,.any,.any,.any,.any,.any,.any,.any,.any,.any,.any,.any,.any,.any,.any,.any,.any,.any,.any,.any,.any,.any,.any,.any,.any,.any,.any,.any,.any,.any,.any,.any,.any,.any,.any,.any,.any,.any,.any,.any,.any,.any,.any,.any,.any,.any],[[.past W' ms'],[.row 2 (two s T)]]⟩,
  fun x=>match x with|(W',ms',j)=>j≤2∧Later W ms W' ms',fun x=>2-x.2.2,⟨(W3,ms3,0),[0,2],⟨⟨rfl,rfl,rfl⟩,?_⟩,Nat.zero_le _,(hL1.trans hL2).trans hL3⟩,fun x hx=>?_⟩
 ·(repeat first|exact trivial|refine ent1 ?_)
  exact ⟨fun i hi=>eqC_two (s:=s) (z:=T) hi,by (repeat first|exact trivial|refine ent1 ?_)⟩
 obtain ⟨W',ms',j⟩:=x
 obtain ⟨hj2,hL'⟩:=hx
 dsimp only
 have hT':=hT.later hL'
 by_cases hj:j<2
 rotate_left
 ·have e1:decide ((j:Int)<((2:Nat):Int))=false:=decide_eq_false (by omega)
  (repeat show _∧_;first|refine yr ?_|refine yt ?_|refine yf ?_|refine yt ?_ (by first|decide|(rw[e1];decide))|refine yf ?_ (by first|decide|(rw[e1];decide))|refine yo ?_)
  (repeat show _∧_;first|refine yr ?_|refine yt ?_|refine yf ?_|refine yt ?_ (by first|decide|(rw[e1];decide))|refine yf ?_ (by first|decide|(rw[e1];decide))|refine yo ?_)
  refine And.intro ⟨by omega,by omega,by rw [U8_len]; omega⟩ ?_
  refine frcN_of (m:=0) rfl ?_
  refine frcN_of (m:=k) (Int.toNat_natCast k) ?_
  obtain ⟨e5,he5⟩:=hcut k hk
  have hd3:(List.take (k-0) (List.drop 0 (U8 G)))=U8 (G.take k):=by rw [Nat.sub_zero,List.drop_zero,U8_take]
  (repeat show _∧_;first|refine yr ?_|refine yt ?_|refine yf ?_|refine yo ?_)
  refine call_past (fn_qparseN hT' (G.take k) (by rw [List.length_take]; omega) he5) 0 [] rfl rfl (by exact And.intro hd3 trivial) (by (repeat first|exact trivial|refine ent1 ?_)) (fun _ _=>trivial) (fun x hs hr=>?_) ?_
  ·obtain ⟨W5,ms5,_,h1,_,rfl⟩:=hr
   exact ⟨W5,ms5,rfl,h1⟩
  rintro y hs ⟨W5,ms5,h5,hL5,rfl,rfl⟩
  (repeat show _∧_;first|refine yr ?_|refine yt ?_|refine yf ?_|refine yo ?_)
  refine call_past (fn_qparseN (hT'.later hL5) lit4 (by decide) lit4_no) 0 [] rfl rfl (by exact And.intro lit4_u8 trivial) (by (repeat first|exact trivial|refine ent1 ?_)) (fun _ _=>trivial) (fun x hs hr=>?_) ?_
  ·obtain ⟨W6,ms6,_,h1,_,rfl⟩:=hr
   exact ⟨W6,ms6,rfl,h1⟩
  rintro y hs ⟨W6,ms6,h6,hL6,rfl,rfl⟩
  (repeat show _∧_;first|refine yr ?_|refine yt ?_|refine yf ?_|refine yo ?_)
  refine call_past (fn_qparseN ((hT'.later hL5).later hL6) lit5 (by decide) lit5_no) 0 [] rfl rfl (by exact And.intro lit5_u8 trivial) (by (repeat first|exact trivial|refine ent1 ?_)) (fun _ _=>trivial) (fun x hs hr=>?_) ?_
  ·obtain ⟨W7,ms7,_,h1,_,rfl⟩:=hr
   exact ⟨W7,ms7,rfl,h1⟩
  rintro y hs ⟨W7,ms7,h7,hL7,rfl,rfl⟩
  have f5:decide (e5≠0)=true:=decide_eq_true h5
  (repeat show _∧_;first|refine yr ?_|refine yt ?_|refine yf ?_|refine yt ?_ (by first|decide|(rw[f5];decide))|refine yf ?_ (by first|decide|(rw[f5];decide))|refine yo ?_)
  (repeat show _∧_;first|refine yr ?_|refine yt ?_|refine yf ?_|refine yt ?_ (by first|decide|(rw[f5];decide))|refine yf ?_ (by first|decide|(rw[f5];decide))|refine yo ?_)
  exact FinW.of ⟨.a (.c (.bool true)),_,⟨[0],⟨rfl,rfl,rfl⟩,by (repeat first|exact trivial|refine ent1 ?_)⟩,W7,ms7,((hL'.trans hL5).trans hL6).trans hL7,rfl,rfl⟩
 have e1:decide ((j:Int)<((2:Nat):Int))=true:=decide_eq_true (by omega)
 obtain ⟨Y,hY,hYl⟩:∃ Y,two s T j=.str (U8 Y)∧Y.length≤172641:=by
  have h2:j=0∨j=1:=by omega
  rcases h2 with rfl|rfl
  ·exact ⟨s,rfl,by omega⟩
  ·exact ⟨T,rfl,hTl⟩
 (repeat show _∧_;first|refine yr ?_|refine yt ?_|refine yf ?_|refine yt ?_ (by first|decide|(rw[e1];decide))|refine yf ?_ (by first|decide|(rw[e1];decide))|refine yo ?_)
 refine frc_atQ (y:=.str (U8 Y)) (by exact hY) ?_
 (repeat show _∧_;first|refine yr ?_|refine yt ?_|refine yf ?_|refine yo ?_)
 refine call_past (fn_qparse' hT' Y (by omega)) 0 [] rfl rfl (by exact And.intro rfl trivial) (by (repeat first|exact trivial|refine ent1 ?_)) (fun _ _=>trivial) (fun x hs hr=>?_) ?_
 ·cases hp:parseM Y with
  | inr e =>
   rw [hp] at hr
   obtain ⟨_,W5,ms5,h1,_,rfl⟩:=hr
   exact ⟨W5,ms5,rfl,h1⟩
  | inl l =>
   rw [hp] at hr
   obtain ⟨_,_,_,W5,ms5,h1,_,_,rfl⟩:=hr
   exact ⟨W5,ms5,rfl,h1⟩
 rintro y hs hr
 cases hp:parseM Y with
 | inr e =>
  rw [hp] at hr
  obtain ⟨he,W5,ms5,hL5,rfl,rfl⟩:=hr
  have f1:decide (e≠0)=true:=decide_eq_true he
  (repeat show _∧_;first|refine yr ?_|refine yt ?_|refine yf ?_|refine yt ?_ (by first|decide|(rw[f1];decide))|refine yf ?_ (by first|decide|(rw[f1];decide))|refine yo ?_)
  refine ⟨(W5,ms5,j+1),[0,1],⟨⟨rfl,rfl,rfl⟩,?_⟩,⟨hj,hL'.trans hL5⟩,by dsimp only; omega⟩
  dsimp only
  (repeat first|exact trivial|refine ent1 ?_)
  exact ⟨fun i hi=>eqC_two hi,by (repeat first|exact trivial|refine ent1 ?_)⟩
 | inl l =>
  rw [hp] at hr
  obtain ⟨a5,n5,c5,W5,ms5,hL5,hE5,rfl,rfl⟩:=hr
  obtain ⟨q1,q2,q3⟩:=parse_again hp (by omega)
  have hT5:=hT'.later hL5
  (repeat show _∧_;first|refine yr ?_|refine yt ?_|refine yf ?_|refine yo ?_)
  refine call_past (fn_qprint' hT5 hE5) 0 [] rfl rfl (by (repeat first|exact trivial|refine ent1 ?_)) (by (repeat first|exact trivial|refine ent1 ?_)) (fun _ _=>trivial) (fun x hs hr=>?_) ?_
  ·obtain ⟨W6,ms6,h1,rfl,_⟩:=hr
   exact ⟨W6,ms6,rfl,h1⟩
  rintro y hs ⟨W6,ms6,hL6,rfl,rfl⟩
  rw [q1,if_pos rfl]
  (repeat show _∧_;first|refine yr ?_|refine yt ?_|refine yf ?_|refine yo ?_)
  refine call_past (fn_qparse' (hT5.later hL6) (put 4 (rootJ l)) (by omega)) 0 [] rfl rfl (by exact And.intro rfl trivial) (by (repeat first|exact trivial|refine ent1 ?_)) (fun _ _=>trivial) (fun x hs hr=>?_) ?_
  ·rw [q3] at hr
   obtain ⟨_,_,_,W7,ms7,h1,_,_,rfl⟩:=hr
   exact ⟨W7,ms7,rfl,h1⟩
  rintro y hs hr
  rw [q3] at hr
  obtain ⟨a7,n7,c7,W7,ms7,hL7,hE7,rfl,rfl⟩:=hr
  (repeat show _∧_;first|refine yr ?_|refine yt ?_|refine yf ?_|refine yo ?_)
  refine call_same (fn_bsame hE7 ((hE5.later hL6).later hL7)) [0] rfl (by (repeat first|exact trivial|refine ent1 ?_)) (by (repeat first|exact trivial|refine ent1 ?_)) (fun _ _=>trivial) ?_
  rintro x hs' ⟨⟨r,hr,rfl⟩,rfl⟩
  have hr1:r=true:=hr.2 rfl
  subst hr1
  (repeat show _∧_;first|refine yr ?_|refine yt ?_|refine yf ?_|refine yo ?_)
  refine ⟨(W7,ms7,j+1),[0,1],⟨⟨rfl,rfl,rfl⟩,?_⟩,⟨hj,((hL'.trans hL5).trans hL6).trans hL7⟩,by dsimp only; omega⟩
  dsimp only
  (repeat first|exact trivial|refine ent1 ?_)
  exact ⟨fun i hi=>eqC_two hi,by (repeat first|exact trivial|refine ent1 ?_)⟩
end Sx
end
section
namespace Sx
open Go.RowKit Sha Vi Js

theorem laysU8:Go.Proofs.Lays.n260 Tryd.prog Tryd.lays197_ren:={ Tryd.lays197 with }
theorem extraU8:Go.Proofs.U8Extra Tryd.prog Tryd.lays197_ren:=⟨by kernel_rfl,by kernel_rfl,by kernel_rfl,by kernel_rfl,by kernel_rfl,by kernel_rfl,by kernel_rfl⟩
theorem first_eq:Rows.laid_unicode_utf8_first=Lib.firstData:=by kernel_rfl
theorem accept_eq:(Rows.laid_unicode_utf8_acceptRanges:DataW Unit)=Lib.acceptData:=by kernel_rfl
theorem pow_eq:(Rows.laid_internal_strconv_uint64pow10:DataW Unit)=Lib.tabData .u64 Lib.pow10Tab:=by kernel_rfl
theorem tabIs_reads {P:Program} {W:World} {name:String} {k:IntKind} {zs:List Int} {g:Nat} {t e:TypeId} {n:Nat}
  (hg:P.globalNamed name=some g) (hty:(P.globals[g]?).map (·.type)=some t) (ht:P.underlying t=some (.array n e)) (he:P.underlying e=some (.int k)) (hce:P.cellsOf e=1) (hct:P.cellsOf t=n)
  (h:Lib.VarReads P W name (Lib.tabData k zs)):Lib.TabIs P W name k zs:=by
 obtain ⟨g',t',cs,fuel,p,hg',ht',hvar,hd⟩:=h
 obtain rfl:=Option.some.inj (hg.symm.trans hg')
 obtain rfl:=Option.some.inj (hty.symm.trans ht')
 unfold Lib.TabIs
 rw [hvar,← Lib.cells_of_tab ht he hce hct hd]
theorem size_reads {P:Program} {W:World} {name:String} {d:DataW Unit} {g:Nat} (hg:P.globalNamed name=some g) (h:Lib.VarReads P W name d):g<W.heap.size:=by
 obtain ⟨g',t',cs,fuel,p,hg',ht',hvar,hd⟩:=h
 obtain rfl:=Option.some.inj (hg.symm.trans hg')
 rcases Nat.lt_or_ge g W.heap.size with h|h
 ·exact h
 ·unfold World.var? at hvar
  rw [hg] at hvar
  simp [Array.getElem?_eq_none h] at hvar
theorem tabs_of_laid {W:World} (h:laidMetH Tryd.prog Rows.jsonErrorsRow.laid W):Tabs W []:=by
 rw [MakeChecks.laidMetH_plain _ _ _ (by kernel_rfl)] at h
 have r5:=Lib.laidMet.reads h (.tail _ (.head _))
 have r3:=Lib.laidMet.reads h (.tail _ (.tail _ (.head _)))
 have r1:=Lib.laidMet.reads h (.tail _ (.tail _ (.tail _ (.head _))))
 have r0:=Lib.laidMet.reads h (.tail _ (.tail _ (.tail _ (.tail _ (.head _)))))
 rw [first_eq] at r0
 rw [accept_eq] at r1
 rw [pow_eq] at r3
 refine ⟨Go.Proofs.utf8Tabs_of_reads laysU8 extraU8 r0 r1,tabIs_reads (P:=Tryd.prog) (name:=p10n) p10_glob (by kernel_rfl) (t:=156) (e:=23) (n:=20) Tryd.underlying156 Tryd.underlying23 (by kernel_rfl) (by kernel_rfl) (by exact r3),?_,fun B _=>List.not_mem_nil⟩
 exact size_reads (g:=5) (by kernel_rfl) r5
end Sx
end
end Go.Proofs.YtnehmcpkeamghaaDoor
