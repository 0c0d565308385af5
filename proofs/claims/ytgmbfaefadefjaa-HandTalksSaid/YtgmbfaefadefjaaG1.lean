/-
  Texts of this claim, part 1: Base, Mem, Blk, U64, Ext, Mk, Sxa, Sxb, Region, Region2, Sxc, Sxd, Sxe, Sxf, Sxg, Sxh, Sxi, Sxu. No condition of its own.
-/
import Derived.Test.YtgmbfaefadefjaaRows
import Derived.WalkKit
import Derived.WalkSpells
import Derived.WalkLawsBesides
import Derived.ProofKit
import Derived.OpenShut
import Derived.ShutString
import Derived.ChangeOld
import Derived.Below
import Derived.Handy
import Derived.Lib.Hide
import Derived.Maps.AppendAt
import Derived.Deep.AppendLies
import Derived.Laws.CopyOwn
import Derived.LaidEqlPtr
import Derived.Laws.IdiomCopy
import Derived.Deep.RegionHeld
import Derived.Deep.RegionHeld3
import Derived.Laws.StructEq
import Derived.ChangeKeysEq
import Derived.Laws.IdiomStrings
import Derived.MapKept
namespace Go.Proofs.Ytgmbfaefadefjaa
set_option linter.unusedVariables false
section
open Go.ChangeShapes Go.WideShapes Go.ChangeAt Go.RowKit

def Sl (w:World) (B size:Nat) (A:Option Addr) (n:Nat) (xs:List Value):Prop :=
 xs.length=n*size∧(0<n→∃ b off,A=some ⟨b,off,none⟩∧b<B∧∀ j u,xs[j]?=some u→w.cell? ⟨b,off+j,none⟩=some u)
theorem cell_lt {w:World} {a:Addr} {v:Value} (h:w.cell? a=some v):a.block<w.heap.size:=by
 unfold World.cell? at h
 rcases Nat.lt_or_ge a.block w.heap.size with hlt|hge
 ·exact hlt
 ·rw [Array.getElem?_eq_none hge] at h; cases h
section
variable {w w' : World} {B B' size n : Nat} {A : Option Addr} {xs : List Value} {l : List UInt8}
end

def IsRow (k:IntKind) (w:World) (a:Option Addr) (len cap:Nat) (zs:List Int):Prop :=
 (a=none∧len=0∧cap=0∧zs=[]) ∨
 ∃ x,a=some x∧len≤cap∧cap≤maxLen∧zs.length=cap∧(∀ i,i<zs.length→w.cell? (x.add i)=some (.int k (zs.getD i 0)))∧∀ n∈zs,(Lit.int k n).wf=true
theorem own:ownKnob Try.prog.godebug=none:=by kernel_rfl
theorem laidOut:laidOutB Try.prog=true:=by kernel_rfl
end
section
open Go.RowKit

section
variable {w w' w1 w2 W : World} {v v' v1 v2 : Value} {B : Nat}
end

section
variable {w w' : World} {base : Nat} {e : TypeId} {v : Value} {n : Nat} {xs : List Value}
end

section
variable {P : Program} (w : World)
end

/-! ### Rows of values of one make: 'f' says how an element lies in its cell -/
section
variable {α : Type} {f : α → Value} {e : TypeId} {w w' : World} {base B B' : Nat} {v v1 : Value} {l : List α} {A : Option Addr}
end

section
variable {P : Program} (w : World) {α : Type}
end
end
section
open Go.RowKit

section
variable {w w' : World} {g : Nat} {t : TypeId} {cs : Array Value}
end

section
variable {w w' w1 w2 W : World} {v v' v1 v2 x : Value} {b B : Nat}
end
end
section
open Go.RowKit
end
section
open Go.RowKit

structure Ext (m:List Nat) (w w':World):Prop where
 os:w'.os=w.os
 tape:w'.tape=w.tape
 output:w'.output=w.output
 size:w.heap.size≤w'.heap.size
 block:∀ k,k<w.heap.size→k ∉ m→w'.heap[k]?=w.heap[k]?
section
variable {w w' w1 w2 W : World} {m m' : List Nat} {B : Nat}
theorem Ext.refl (m:List Nat) (w:World):Ext m w w:=⟨rfl,rfl,rfl,Nat.le_refl _,fun _ _ _=>rfl⟩
theorem Ext.trans2 (h:Ext m w w1) (k:Ext m' w1 w2) (hm:∀ i∈m',i∈m∨w.heap.size≤i):Ext m w w2 :=
 ⟨k.os.trans h.os,k.tape.trans h.tape,k.output.trans h.output,Nat.le_trans h.size k.size,fun i hi hn =>
  (k.block i (Nat.lt_of_lt_of_le hi h.size) (fun hc=>by rcases hm i hc with h|h; exact hn h; omega)).trans (h.block i hi hn)⟩
theorem Ext.trans (h:Ext m w w1) (k:Ext m w1 w2):Ext m w w2:=h.trans2 k fun _ h=>.inl h
theorem Ext.mono (h:Ext m w w') (hm:∀ i∈m,i∈m'∨w.heap.size≤i):Ext m' w w' :=
 ⟨h.os,h.tape,h.output,h.size,fun k hk hn=>h.block k hk (fun hc=>by rcases hm k hc with h|h; exact hn h; omega)⟩
theorem Ext.nil (h:Ext [] w w') (m:List Nat):Ext m w w':=h.mono (by simp)
theorem Ext.quiet (h:Ext m w w1) (k:Ext [] w1 w2):Ext m w w2:=h.trans (k.nil m)
theorem Ext.alloc (h:Ext m w w') (o:Obj):Ext m w (w'.alloc o) :=
 ⟨h.os,h.tape,h.output,by have:=h.size; simp; omega,fun k hk hn=>(Below.heap_alloc _ _ _ (by have:=h.size; omega)).trans (h.block k hk hn)⟩
theorem Ext.drew (h:Ext m w w'):Ext m w w'.drew:=⟨h.os,h.tape,h.output,h.size,h.block⟩
theorem Ext.set_ (h:Ext m w w') {p:Addr} (hp:p.block∈m∨w.heap.size≤p.block) (u:Value):Ext m w (w'.setCell p u) :=
 ⟨h.os,h.tape,h.output,by simpa [World.setCell] using h.size,fun k hk hn=>(Below.heap_setCell _ _ _ _ (fun e=>by subst e; rcases hp with hp|hp; exact hn hp; omega)).trans (h.block k hk hn)⟩
theorem Ext.below0 (h:Ext [] w w'):Below w.heap.size w w':=⟨h.os,h.tape,h.output,h.size,fun k hk=>h.block k hk (by simp)⟩
theorem Ext.cell (h:Ext m w w') {p:Addr} {u:Value} (hn:p.block ∉ m) (hc:w.cell? p=some u):w'.cell? p=some u :=
 (World.cell?_of_block (h.block p.block (cell_lt hc) hn)).trans hc
section
variable {α : Type} {f : α → Value} {A : Option Addr} {l : List α}
end
end
end
section
namespace Sx
def marksOk:Bool:=true
def ptrTs:List Nat:=[]
end Sx
end
section
namespace Sx
open Go.RowKit

inductive SC where
 | any
 | int (k:IntKind) (n:Int)
 | w8 (x:BitVec 8)
 | w16 (x:BitVec 16)
 | w32 (x:BitVec 32)
 | w64 (x:BitVec 64)
 | bool (b:Bool)
 | str (l:List UInt8)
 | p (i b o:Nat)
 | sl (i b o n c:Nat)
 | ptr (a:Option Addr)
 | slc (a:Option Addr) (n c:Nat)
 | ifc (t:TypeId) (x:Value)
 | nilIfc
 | fnv (f:Fn) (first cap:Array Value)
 | clo (f:FuncId) (i b o:Nat)
 | nilFn
 | nilMap
 /-- A slice that may be nil (z: it is). -/
 | sn (z:Bool) (i b o n c:Nat)
 /-- A map that is not nil. -/
 | mh (i:Nat)
 /-- A function with one thing caught: where it lies. -/
 | cap (f:FuncId) (i b o:Nat)
 /-- A function with two things caught. -/
 | cap2 (f:FuncId) (i b o j c p:Nat)
 /-- What goes through a string. -/
 | ih (i:Nat)
inductive MapD where
 | w64 (l:List (BitVec 64 × BitVec 64))
 | w8b (l:List (BitVec 8 × Bool))
 | strs (l:List (List UInt8))
 /-- A string that is gone through, and how far. -/
 | it (l:List UInt8) (pos:Nat)
inductive Seg where
 | one (x:SC)
 | row (n:Nat) (f:Nat→SC)
 | obj (m:MapD)
 | past (w1:World) (ms:List Nat)
inductive SA where
 | c (x:SC)
 | agg (l:List Seg)
inductive SV where
 | any
 | a (x:SA)
 | tup (l:List SA)
abbrev Rho:=List (Nat × Nat)
def SC.Is (r:Rho):SC→Value→Prop
 | .any,v=>v.oneCell'=true
 | .int k n,v=>v=.int k n
 | .w8 x,v=>v=.int .u8 (x.toNat:Int)
 | .w16 x,v=>v=.int .u16 (x.toNat:Int)
 | .w32 x,v=>v=.int .u32 (x.toNat:Int)
 | .w64 x,v=>v=.int .u64 (x.toNat:Int)
 | .bool b,v=>v=.bool b
 | .str l,v=>v=.string ⟨l.toArray⟩
 | .p i b o,v=>∃ B f,r[i]?=some (B,f)∧v=.pointer (some ⟨B,f+(b+o),none⟩)
 | .sl i b o n c,v=>∃ B f,r[i]?=some (B,f)∧v=.slice (some ⟨B,f+(b+o),none⟩) n c
 | .ptr a,v=>v=.pointer a
 | .slc a n c,v=>v=.slice a n c
 | .ifc t x,v=>v=.iface t x
 | .nilIfc,v=>v=.nilIface
 | .fnv f x y,v=>v=.func f x y
 | .clo g i b o,v=>∃ B f,r[i]?=some (B,f)∧v=.func (.func g) #[.pointer (some ⟨B,f+(b+o),none⟩)] #[]
 | .nilFn,v=>v=.nilFunc
 | .nilMap,v=>v=.map none
 | .mh i,v=>∃ B f,r[i]?=some (B,f)∧v=.map (some B)
 | .ih i,v=>∃ B f,r[i]?=some (B,f)∧v=.pointer (some ⟨B,0,none⟩)
 | .cap g i b o,v=>∃ B f,r[i]?=some (B,f)∧v=.func (.func g) #[] #[.pointer (some ⟨B,f+(b+o),none⟩)]
 | .cap2 g i b o j c d,v=>∃ B f,r[i]?=some (B,f)∧∃ B' f',r[j]?=some (B',f')∧v=.func (.func g) #[] #[.pointer (some ⟨B,f+(b+o),none⟩),.pointer (some ⟨B',f'+(c+d),none⟩)]
 | .sn z i b o n c,v=>(z=true∧v=.slice none 0 0∧n=0∧c=0)∨(z=false∧∃ B f,r[i]?=some (B,f)∧v=.slice (some ⟨B,f+(b+o),none⟩) n c)∨(z=false∧n=0∧c=0∧∃ (B f:Nat) (s:Option Nat),v=.slice (some ⟨B,f,s⟩) 0 0)
theorem SC.Is.one {r:Rho} {x:SC} {v:Value} (h:x.Is r v):v.oneCell'=true:=by
 cases x <;> simp only [SC.Is] at h
 case any=>exact h
 case p=>obtain ⟨_,_,_,rfl⟩:=h; rfl
 case sl=>obtain ⟨_,_,_,rfl⟩:=h; rfl
 case clo=>obtain ⟨_,_,_,rfl⟩:=h; rfl
 case mh=>obtain ⟨_,_,_,rfl⟩:=h; rfl
 case ih=>obtain ⟨_,_,_,rfl⟩:=h; rfl
 case cap=>obtain ⟨_,_,_,rfl⟩:=h; rfl
 case cap2=>obtain ⟨_,_,_,_,_,_,rfl⟩:=h; rfl
 case sn=>rcases h with ⟨_,rfl,_,_⟩|⟨_,_,_,_,rfl⟩|⟨_,_,_,_,_,_,rfl⟩ <;> rfl
 all_goals (subst h; rfl)
def RLe (r r':Rho):Prop:=∀ (i:Nat) (x:Nat × Nat),r[i]?=some x→r'[i]?=some x
theorem RLe.refl (r:Rho):RLe r r:=fun _ _ h=>h
theorem RLe.trans {a b c:Rho} (h:RLe a b) (k:RLe b c):RLe a c:=fun i x e=>k i x (h i x e)
theorem RLe.snoc (r:Rho) (x:Nat × Nat):RLe r (r++[x]):=by
 intro i y e
 have:i<r.length:=by
  rcases Nat.lt_or_ge i r.length with h|h
  ·exact h
  ·rw [List.getElem?_eq_none h] at e; cases e
 rw [List.getElem?_append_left this]; exact e
theorem SC.Is.mono {r r':Rho} {x:SC} {v:Value} (h:x.Is r v) (k:RLe r r'):x.Is r' v:=by
 cases x <;> simp only [SC.Is] at h ⊢ <;> first
  | exact h
  | (obtain ⟨B,f,e,rfl⟩:=h; exact ⟨B,f,k _ _ e,rfl⟩)
  | (obtain ⟨B,f,e,B',f',e',rfl⟩:=h; exact ⟨B,f,k _ _ e,B',f',k _ _ e',rfl⟩)
  | (rcases h with ⟨h1,h2⟩|⟨h1,B,f,e,h2⟩|h; exact .inl ⟨h1,h2⟩; exact .inr (.inl ⟨h1,B,f,k _ _ e,h2⟩); exact .inr (.inr h))
def flat:List Seg→List SC
 | []=>[]
 | .one x::r=>x::flat r
 | .row n f::r=>(List.range n).map f++flat r
 | .obj _::r=>flat r
 | .past _ _::r=>flat r
def stirs:List Seg→Bool
 | []=>false
 | .past _ _::_=>false
 | _=>true
def hd1:List Seg→Bool
 | .obj _::_=>false
 | .past _ _::_=>false
 | _=>true
def MapD.ents:MapD→List (Value × Value)
 | .w64 l=>l.map fun x=>(.int .u64 (x.1.toNat:Int),.int .u64 (x.2.toNat:Int))
 | .w8b l=>l.map fun x=>(.int .u8 (x.1.toNat:Int),.bool x.2)
 | .strs l=>l.map fun x=>(.string ⟨x.toArray⟩,.agg #[])
 | .it _ _=>[]
def ObjAt (w:World) (B:Nat) (m:MapD):Prop:=match m with
 | .it l pos=>w.heap[B]?=some (.stringIter ⟨l.toArray⟩ pos)
 | m=>∃ (a:Array MapEntry) (clock:Nat),w.heap[B]?=some (.map a clock)∧a.toList.map (fun e=>(e.key,e.val))=m.ents
def MapD.isM:MapD→Bool
 | .it _ _=>false
 | _=>true
theorem ObjAt.map {w:World} {B:Nat} {m:MapD} (h:ObjAt w B m) (hm:m.isM=true):∃ (a:Array MapEntry) (clock:Nat),w.heap[B]?=some (.map a clock)∧a.toList.map (fun e=>(e.key,e.val))=m.ents:=by
 cases m <;> first|exact h|cases hm
theorem ObjAt.ofMap {w:World} {B:Nat} {m:MapD} (hm:m.isM=true) (h:∃ (a:Array MapEntry) (clock:Nat),w.heap[B]?=some (.map a clock)∧a.toList.map (fun e=>(e.key,e.val))=m.ents):ObjAt w B m:=by
 cases m <;> first|exact h|cases hm
theorem ObjAt.obj {w:World} {B:Nat} {m:MapD} (h:ObjAt w B m):∃ o,w.heap[B]?=some o∧(∀ c t z,o≠.cells c t z):=by
 by_cases hm:m.isM=true
 ·obtain ⟨a,c,e,_⟩:=h.map hm
  exact ⟨_,e,fun _ _ _ e=>by cases e⟩
 ·cases m <;> first|exact absurd rfl hm|exact ⟨_,h,fun _ _ _ e=>by cases e⟩
theorem ObjAt.block {w w':World} {B:Nat} {m:MapD} (h:ObjAt w B m) (k:w'.heap[B]?=w.heap[B]?):ObjAt w' B m:=by
 unfold ObjAt at h ⊢
 rw [k]; exact h
theorem ObjAt.lt {w:World} {B:Nat} {m:MapD} (h:ObjAt w B m):B<w.heap.size:=by
 obtain ⟨o,e,_⟩:=h.obj
 exact (Array.getElem?_eq_some_iff.1 e).1
def ImAt (w1:World) (ms:List Nat) (a:Addr) (l:List SC):Prop :=
 a.spot=none∧a.block<w1.heap.size∧a.block ∉ ms∧∀ (j:Nat) (x:SC),l[j]?=some x→∃ v,w1.cell? ⟨a.block,a.off+j,none⟩=some v∧x.Is [] v
def Later (w1:World) (ms1:List Nat) (w2:World) (ms2:List Nat):Prop:=Ext ms1 w1 w2∧∀ (B:Nat),B<w1.heap.size→B ∉ ms1→B ∉ ms2
theorem Later.refl (w:World) (ms:List Nat):Later w ms w ms:=⟨Ext.refl _ _,fun _ _ h2=>h2⟩
theorem Later.ext {w1 w2 w':World} {m1 m2:List Nat} (h:Later w1 m1 w2 m2) (k:Ext m2 w2 w'):Ext m1 w1 w' :=
 ⟨k.os.trans h.1.os,k.tape.trans h.1.tape,k.output.trans h.1.output,Nat.le_trans h.1.size k.size,fun i hi hn=>(k.block i (Nat.lt_of_lt_of_le hi h.1.size) (h.2 i hi hn)).trans (h.1.block i hi hn)⟩
theorem Later.trans {w1 w2 w3:World} {m1 m2 m3:List Nat} (h:Later w1 m1 w2 m2) (k:Later w2 m2 w3 m3):Later w1 m1 w3 m3 :=
 ⟨h.ext k.1,fun B h1 h2=>k.2 B (Nat.lt_of_lt_of_le h1 h.1.size) (h.2 B h1 h2)⟩
def IsL (r:Rho) (l:List SC) (vs:List Value):Prop:=l.length=vs.length∧∀ (j:Nat) (x:SC),l[j]?=some x→∃ v,vs[j]?=some v∧x.Is r v
theorem IsL.mono {r r':Rho} {l:List SC} {vs:List Value} (h:IsL r l vs) (k:RLe r r'):IsL r' l vs :=
 ⟨h.1,fun j x e=>let ⟨v,e1,e2⟩:=h.2 j x e; ⟨v,e1,e2.mono k⟩⟩
theorem IsL.one {r:Rho} {l:List SC} {vs:List Value} (h:IsL r l vs):∀ v∈vs,v.oneCell'=true:=by
 intro v hv
 obtain ⟨j,hj,rfl⟩:=List.mem_iff_getElem.1 hv
 obtain ⟨u,hu,hi⟩:=h.2 j (l[j]'(by rw [h.1]; exact hj)) (List.getElem?_eq_getElem _)
 rw [List.getElem?_eq_getElem hj] at hu
 injection hu with hu
 subst hu
 exact hi.one
def SA.Is (r:Rho):SA→Value→Prop
 | .c x,v=>x.Is r v
 | .agg l,v=>∃ vs:List Value,v=.agg vs.toArray∧IsL r (flat l) vs
def SV.Is (r:Rho):SV→Value→Prop
 | .any,_=>True
 | .a x,v=>x.Is r v
 | .tup l,v=>∃ vs:List Value,v=.tuple vs.toArray∧l.length=vs.length∧∀ (j:Nat) (x:SA),l[j]?=some x→∃ u,vs[j]?=some u∧SA.Is r x u
theorem SA.Is.mono {r r':Rho} {x:SA} {v:Value} (h:x.Is r v) (k:RLe r r'):x.Is r' v:=by
 cases x with
 | c x=>exact SC.Is.mono (x:=x) h k
 | agg l=>obtain ⟨vs,e,h⟩:=h; exact ⟨vs,e,h.mono k⟩
theorem SV.Is.mono {r r':Rho} {x:SV} {v:Value} (h:x.Is r v) (k:RLe r r'):x.Is r' v:=by
 cases x with
 | any=>trivial
 | a x=>exact SA.Is.mono (x:=x) h k
 | tup l=>obtain ⟨vs,e,hl,h⟩:=h; exact ⟨vs,e,hl,fun j x ex=>let ⟨u,e1,e2⟩:=h j x ex; ⟨u,e1,e2.mono k⟩⟩
def Clean (w:World) (B:Nat):Prop:=∀ c t lo hi,w.heap[B]?=some (.cells c t (lo,hi))→lo=hi∨(marksOk=true∧c.size≤lo)
theorem Clean.fr {w:World} {B o:Nat} {v:Value} (h:Clean w B) (hc:w.cell? ⟨B,o,none⟩=some v):w.frozen? ⟨B,o,none⟩=false:=by
 unfold World.cell? at hc
 unfold World.frozen?
 cases e:w.heap[B]? with
 | none=>simp
 | some x =>
  cases x with
  | cells c t z =>
   obtain ⟨lo,hi⟩:=z
   simp only [e] at hc
   have ho:o<c.size:=by
    have:c[o]?=some v:=by simpa using hc
    exact (Array.getElem?_eq_some_iff.1 this).1
   have:=h c t lo hi e
   simp
   rcases this with h|⟨_,h⟩ <;> omega
  | _=>simp
theorem Clean.block {w w':World} {B:Nat} (h:Clean w B) (k:w'.heap[B]?=w.heap[B]?):Clean w' B:=fun c t lo hi e=>h c t lo hi (k ▸ e)
theorem Clean.setCell {w:World} {B:Nat} (h:Clean w B) (a:Addr) (v:Value):Clean (w.setCell a v) B:=by
 intro c t lo hi e
 simp only [World.setCell,Array.getElem?_modify] at e
 split at e
 ·cases e2:w.heap[B]? with
  | none=>rw [e2] at e; cases e
  | some x =>
   rw [e2] at e
   cases x with
   | cells c' t' z =>
    simp only [Option.map_some,Option.some.injEq,Obj.cells.injEq] at e
    obtain ⟨rfl,rfl,rfl⟩:=e
    have:=h c' t' lo hi e2
    split
    ·exact this
    ·simpa using this
   | _=>simp at e
 ·exact h c t lo hi e
theorem Clean.setCells {B b:Nat}:∀ (vs:List Value) (o:Nat) {w:World},Clean w B→Clean (w.setCells b o vs) B
 | [],_,_,h=>h
 | _::vs,o,_,h=>Clean.setCells vs (o+1) (h.setCell _ _)
def Unm (W:World) (ms:List Nat) (a:Addr):Prop:=a.spot=none∧a.block<W.heap.size∧a.block ∉ ms∧∃ c t lo,W.heap[a.block]?=some (.cells c t (lo,lo))∧a.off<c.size
def At (z:Bool) (r:Rho) (w:World) (B off:Nat) (l:List SC):Prop :=
 ∀ (j:Nat) (x:SC),l[j]?=some x→∃ v,w.cell? ⟨B,off+j,none⟩=some v∧x.Is r v∧(z=true→Clean w B)
theorem At.mono {z:Bool} {r r':Rho} {w:World} {B off:Nat} {l:List SC} (h:At z r w B off l) (k:RLe r r'):At z r' w B off l :=
 fun j x e=>let ⟨v,e1,e2,e3⟩:=h j x e; ⟨v,e1,e2.mono k,e3⟩
theorem At.block {z:Bool} {r:Rho} {w w':World} {B off:Nat} {l:List SC} (h:At z r w B off l) (k:w'.heap[B]?=w.heap[B]?):At z r w' B off l :=
 fun j x e=>let ⟨v,e1,e2,e3⟩:=h j x e; ⟨v,(World.cell?_of_block k).trans e1,e2,fun hz=>(e3 hz).block k⟩
theorem At.extm {z:Bool} {r:Rho} {w w':World} {m:List Nat} {B off:Nat} {l:List SC} (h:At z r w B off l) (k:Ext m w w') (hB:l≠[]→B ∉ m):At z r w' B off l :=
 fun j x e=>by
  obtain ⟨v,e1,e2,e3⟩:=h j x e
  have hl:l≠[]:=fun hc=>by subst hc; simp at e
  have hb:=k.block B (cell_lt e1) (hB hl)
  exact ⟨v,(World.cell?_of_block hb).trans e1,e2,fun hz=>(e3 hz).block hb⟩
theorem At.lt {z:Bool} {r:Rho} {w:World} {B off:Nat} {l:List SC} (h:At z r w B off l) (hl:l≠[]):B<w.heap.size:=by
 cases l with
 | nil=>exact absurd rfl hl
 | cons x l=>obtain ⟨v,e1,_⟩:=h 0 x rfl; exact cell_lt e1
theorem At.vals {z:Bool} {r:Rho} {w:World} {B off:Nat} {l:List SC} (h:At z r w B off l) :
  ∃ vs,IsL r l vs∧∀ (j:Nat) (v:Value),vs[j]?=some v→w.cell? ⟨B,off+j,none⟩=some v:=by
 refine ⟨(List.range l.length).map fun j=>(w.cell? ⟨B,off+j,none⟩).getD undef,⟨by simp,fun j x e=>?_⟩,fun j v e=>?_⟩
 ·obtain ⟨v,e1,e2,_⟩:=h j x e
  have hj:j<l.length:=by
   rcases Nat.lt_or_ge j l.length with h|h
   ·exact h
   ·rw [List.getElem?_eq_none h] at e; cases e
  exact ⟨v,by simp [hj,e1],e2⟩
 ·have hj:j<l.length:=by
   rcases Nat.lt_or_ge j l.length with h|h
   ·exact h
   ·rw [List.getElem?_eq_none (by simpa using h)] at e; cases e
  obtain ⟨u,e1,_⟩:=h j _ (List.getElem?_eq_getElem hj)
  simp [hj,e1] at e
  rw [e1,e]
structure St where
 t:List SV
 h:List (List Seg)
/-! What types are: a table that is checked once. -/
inductive MK where
 | w64|w8b|strs
inductive TK where
 | map (k:MK)|int (k:IntKind)|bool|str|ptr (e:Nat)|slice (e:Nat)|array (n e:Nat)|struct (fs:List (Nat × Nat))|ifc|fn|other
structure TD where
 k:TK
 size:Nat
 bytes:Nat
 zero:List Seg
def TD.isAgg (d:TD):Bool:=match d.k with|.array ..|.struct _=>true|_=>false
def fieldsOf:Option TypeDesc→Option (List (Nat × Nat))
 | some (.struct gs)=>some (gs.toList.map fun f=>(f.type,f.offset))
 | _=>none
def isIfc:Option TypeDesc→Bool
 | some (.interface _)=>true
 | _=>false
def isFn:Option TypeDesc→Bool
 | some (.func ..)=>true
 | _=>false
def MK.Ok (P:Program) (k e:TypeId):MK→Prop
 | .w64=>P.underlying k=some (.int .u64)∧(P.info? e).map (·.zero)=some (some (.int .u64 0))
 | .w8b=>P.underlying k=some (.int .u8)∧(P.info? e).map (·.zero)=some (some (.bool false))
 | .strs=>P.underlying k=some .string∧(P.info? e).map (·.zero)=some (some (.agg #[]))
def TK.Ok (P:Program) (t:TypeId):TK→Prop
 | .map mk=>∃ k e,P.underlying t=some (.map k e)∧mk.Ok P k e
 | .int k=>P.underlying t=some (.int k)
 | .bool=>P.underlying t=some .bool
 | .str=>P.underlying t=some .string
 | .ptr e=>P.underlying t=some (.pointer e)
 | .slice e=>P.underlying t=some (.slice e)
 | .array n e=>P.underlying t=some (.array n e)
 | .struct fs=>fieldsOf (P.underlying t)=some fs
 | .ifc=>isIfc (P.underlying t)=true
 | .fn=>isFn (P.underlying t)=true
 | .other=>False
def SC.val:SC→Value
 | .int k n=>.int k n
 | .w8 x=>.int .u8 (x.toNat:Int)
 | .w16 x=>.int .u16 (x.toNat:Int)
 | .w32 x=>.int .u32 (x.toNat:Int)
 | .w64 x=>.int .u64 (x.toNat:Int)
 | .bool b=>.bool b
 | .str l=>.string ⟨l.toArray⟩
 | .ptr a=>.pointer a
 | .slc a n c=>.slice a n c
 | .nilIfc=>.nilIface
 | .nilFn=>.nilFunc
 | .nilMap=>.map none
 | _=>.nilFunc
def SC.plain:SC→Bool
 | .int ..|.w8 _|.w16 _|.w32 _|.w64 _|.bool _|.str _|.ptr _|.slc ..|.nilIfc|.nilFn|.nilMap=>true
 | _=>false
theorem SC.is_val (r:Rho) {x:SC} (h:x.plain=true):x.Is r x.val:=by
 cases x <;> first|rfl|cases h
def TD.zeroVal (d:TD):Value:=if d.isAgg then .agg ((flat d.zero).map SC.val).toArray else (((flat d.zero).map SC.val).headD .nilFunc)
structure TdOk (P:Program) (t:TypeId) (d:TD):Prop where
 info:(P.info? t).map (fun i=>(i.size,i.bytes,i.zero))=some (d.size,d.bytes,some d.zeroVal)
 kind:d.k.Ok P t
 len:(flat d.zero).length=d.size
 plain:(flat d.zero).all SC.plain=true
 sing:(d.isAgg || (match d.zero with|[.one _]=>true|_=>false))=true
def AllT (P:Program):List (Nat × TD)→Prop
 | []=>True
 | (t,d)::r=>TdOk P t d∧AllT P r
def findT:List (Nat × TD)→Nat→Option TD
 | [],_=>none
 | (t,d)::r,u=>match Nat.beq t u with
  | true=>some d
  | false=>findT r u
theorem AllT.find {P:Program}:∀ {T:List (Nat × TD)} {t:Nat} {d:TD},AllT P T→findT T t=some d→TdOk P t d
 | [],_,_,_,h=>by cases h
 | (u,e)::r,t,d,⟨h1,h2⟩,h=>by
  simp only [findT] at h
  split at h
  ·rename_i hb
   injection h with h
   rw [← Nat.eq_of_beq_eq_true hb,← h]
   exact h1
  ·exact h2.find h
structure Cx where
 P:Program
 T:List (Nat × TD)
 w0:World
 m:List Nat
 r0:Rho
 ro:Nat
 live:Nat→Prop
 safe:Nat→Prop
structure HeapOk (C:Cx) (h:List (List Seg)) (r:Rho) (w:World):Prop where
 ext:Ext C.m C.w0 w
 agree:RLe C.r0 r
 rol:C.ro≤C.r0.length
 len:r.length=h.length
 chunks:∀ (i:Nat) (ch:List Seg) (B f:Nat),h[i]?=some ch→r[i]?=some (B,f)→At (Nat.ble C.ro i) r w B f (flat ch)
 lt:∀ (i B f:Nat),C.ro≤i→r[i]?=some (B,f)→B<w.heap.size
 own:∀ (i B f:Nat),C.ro≤i→r[i]?=some (B,f)→B∈C.m∨C.w0.heap.size≤B
 ros:∀ (i B f:Nat),i<C.ro→C.live i→r[i]?=some (B,f)→B ∉ C.m∧B<C.w0.heap.size
 dead:∀ (i:Nat) (ch:List Seg),i<C.ro→¬ C.live i→h[i]?=some ch→flat ch=[]
 apart:∀ (i j B f f':Nat) (ch ch':List Seg),i≠j→C.ro≤i→C.ro≤j→h[i]?=some ch→h[j]?=some ch'→r[i]?=some (B,f)→r[j]?=some (B,f')→ch=[]∨ch'=[]
 maps:∀ (i:Nat) (m:MapD) (B f:Nat),C.ro≤i→h[i]?=some [.obj m]→r[i]?=some (B,f)→ObjAt w B m
 past:∀ (i:Nat) (w1:World) (ms:List Nat),h[i]?=some [.past w1 ms]→Ext ms w1 w∧(∀ B,B<C.w0.heap.size→B<w1.heap.size→B ∉ ms→C.safe B) ∧
  ∀ (j B f:Nat),C.ro≤j→r[j]?=some (B,f)→B<w1.heap.size→B∈ms
theorem HeapOk.sep {C:Cx} {h:List (List Seg)} {r:Rho} {w:World} (ok:HeapOk C h r w) {i j B f f':Nat} {ch ch':List Seg} (hij:i≠j) (hj:C.ro≤j) (h1:h[i]?=some ch) (h2:h[j]?=some ch') (r1:r[i]?=some (B,f)) (r2:r[j]?=some (B,f')) (hne:ch'≠[]):flat ch=[]:=by
 by_cases hi:C.ro≤i
 ·rcases ok.apart i j B f f' ch ch' hij hi hj h1 h2 r1 r2 with h|h
  ·rw [h]; rfl
  ·exact absurd h hne
 ·apply Classical.byContradiction
  intro hc
  have hi:i<C.ro:=by omega
  have hl:C.live i:=Classical.byContradiction fun hl=>hc (ok.dead i ch hi hl h1)
  obtain ⟨a1,a2⟩:=ok.ros i B f hi hl r1
  rcases ok.own j B f' hj r2 with h|h
  ·exact a1 h
  ·omega
theorem ble_le {a b:Nat} (h:Nat.ble a b=true):a≤b:=Nat.le_of_ble_eq_true h
theorem le_ble {a b:Nat} (h:a≤b):Nat.ble a b=true:=Nat.ble_eq_true_of_le h
structure Ok (C:Cx) (s:St) (r:Rho) (a:Act) (w:World):Prop where
 heap:HeapOk C s.h r w
 size:a.tmps.size=s.t.length
 slots:∀ (d:Nat) (x:SV),s.t[d]?=some x→x.Is r (a.tmps.getD d undef)
 defers:a.defers=[]
end Sx
end
section
namespace Sx
open Go.RowKit

/-! Forms are laid bare step by step, so that what is left is always written out. -/
def frcN (n:Nat) (k:Nat→Prop):Prop:=match n+1 with|0=>False|m+1=>k m
theorem frcN_eq (n:Nat) (k:Nat→Prop):frcN n k=k n:=rfl
def frcSC (x:SC) (k:SC→Prop):Prop:=match x with
 | .any=>k .any
 | .int a b=>k (.int a b)
 | .w8 a=>k (.w8 a)
 | .w16 a=>k (.w16 a)
 | .w32 a=>k (.w32 a)
 | .w64 a=>k (.w64 a)
 | .bool a=>k (.bool a)
 | .str a=>k (.str a)
 | .p a b c=>k (.p a b c)
 | .sl a b c d e=>k (.sl a b c d e)
 | .ptr a=>k (.ptr a)
 | .slc a b c=>k (.slc a b c)
 | .ifc a b=>k (.ifc a b)
 | .nilIfc=>k .nilIfc
 | .fnv a b c=>k (.fnv a b c)
 | .clo a b c d=>k (.clo a b c d)
 | .nilFn=>k .nilFn
 | .nilMap=>k .nilMap
 | .sn z a b c d e=>k (.sn z a b c d e)
 | .mh a=>k (.mh a)
 | .cap a b c d=>k (.cap a b c d)
 | .cap2 a b c d e f g=>k (.cap2 a b c d e f g)
 | .ih a=>k (.ih a)
theorem frcSC_eq (x:SC) (k:SC→Prop):frcSC x k=k x:=by cases x <;> rfl
def frcV (x:SV) (k:SV→Prop):Prop:=match x with
 | .any=>k .any
 | .a (.c x)=>frcSC x fun x=>k (.a (.c x))
 | .a (.agg l)=>k (.a (.agg l))
 | .tup l=>k (.tup l)
theorem frcV_eq (x:SV) (k:SV→Prop):frcV x k=k x:=by
 cases x with
 | any=>rfl
 | tup l=>rfl
 | a x=>cases x with
  | agg l=>rfl
  | c x=>exact frcSC_eq x (fun x=>k (.a (.c x)))
def setT:List SV→Nat→SV→(List SV→Prop)→Prop
 | [],_,_,k=>k []
 | _::r,0,x,k=>k (x::r)
 | y::r,n+1,x,k=>setT r n x (fun r'=>k (y::r'))
theorem setT_eq:∀ (l:List SV) (n:Nat) (x:SV) (k:List SV→Prop),setT l n x k=k (l.set n x)
 | [],_,_,_=>rfl
 | _::_,0,_,_=>rfl
 | y::r,n+1,x,k=>by simp only [setT,List.set_cons_succ,setT_eq r n x]
def getT:List SV→Nat→SV
 | [],_=>.any
 | x::_,0=>x
 | _::r,n+1=>getT r n
def getH:List (List Seg)→Nat→List Seg
 | [],_=>[]
 | x::_,0=>x
 | _::r,n+1=>getH r n
def setH:List (List Seg)→Nat→List Seg→(List (List Seg)→Prop)→Prop
 | [],_,_,k=>k []
 | _::r,0,x,k=>k (x::r)
 | y::r,n+1,x,k=>setH r n x (fun r'=>k (y::r'))
theorem setH_eq:∀ (l:List (List Seg)) (n:Nat) (x:List Seg) (k:List (List Seg)→Prop),setH l n x k=k (l.set n x)
 | [],_,_,_=>rfl
 | _::_,0,_,_=>rfl
 | y::r,n+1,x,k=>by simp only [setH,List.set_cons_succ,setH_eq r n x]
def addH:List (List Seg)→List Seg→Nat→(Nat→List (List Seg)→Prop)→Prop
 | [],x,n,k=>frcN n fun n=>k n [x]
 | y::r,x,n,k=>addH r x (n+1) (fun i r'=>k i (y::r'))
theorem addH_eq:∀ (l:List (List Seg)) (x:List Seg) (n:Nat) (k:Nat→List (List Seg)→Prop),addH l x n k=k (n+l.length) (l++[x])
 | [],_,_,_=>rfl
 | y::r,x,n,k=>by simp only [addH,addH_eq r x,List.length_cons,List.cons_append]; congr 1; omega
def ofInt (k:IntKind) (n:Int):SC:=match k with
 | .u8=>match n with
  | .ofNat m=>match Nat.blt m 256 with|true=>.w8 (BitVec.ofNat 8 m)|false=>.any
  | _=>.any
 | .u16=>match n with
  | .ofNat m=>match Nat.blt m 65536 with|true=>.w16 (BitVec.ofNat 16 m)|false=>.any
  | _=>.any
 | .u32=>match n with
  | .ofNat m=>match Nat.blt m 4294967296 with|true=>.w32 (BitVec.ofNat 32 m)|false=>.any
  | _=>.any
 | .u64=>match n with
  | .ofNat m=>match Nat.blt m 18446744073709551616 with|true=>.w64 (BitVec.ofNat 64 m)|false=>.any
  | _=>.any
 | k=>.int k n
def ofVal:Value→SV
 | .int k n=>.a (.c (ofInt k n))
 | .bool b=>.a (.c (.bool b))
 | .string s=>.a (.c (.str s.data.toList))
 | .pointer a=>.a (.c (.ptr a))
 | .slice a n c=>.a (.c (.slc a n c))
 | .nilIface=>.a (.c .nilIfc)
 | .nilFunc=>.a (.c .nilFn)
 | .map none=>.a (.c .nilMap)
 | .func f x y=>.a (.c (.fnv f x y))
 | _=>.any
def ev (t:List SV):Operand→SV
 | .tmp d=>getT t d
 | .const v=>ofVal v
 | .global g=>.a (.c (.ptr (some ⟨g,0,none⟩)))
 | .func f=>.a (.c (.fnv (.func f) #[] #[]))
/-! Blocks: the pieces from a place on; a piece is read, written. -/
def segs?:List Seg→Nat→Option (List Seg)
 | l,0=>some l
 | .one _::r,b+1=>segs? r b
 | .row n _::r,b+1=>match Nat.ble n (b+1) with
  | true=>segs? r (b+1-n)
  | false=>none
 | .obj _::_,_+1=>none
 | .past _ _::_,_+1=>none
 | [],_+1=>none
def shape:List Seg→List (Option Nat)
 | []=>[]
 | .one _::r=>none::shape r
 | .row n _::r=>some n::shape r
 | .obj _::r=>shape r
 | .past _ _::r=>shape r
def takeA:List (Option Nat)→List Seg→(List Seg→Prop)→Prop
 | [],_,k=>k []
 | none::sh,.one x::r,k=>takeA sh r (fun l=>k (.one x::l))
 | some m::sh,.row n f::r,k=>match Nat.beq m n with
  | true=>takeA sh r (fun l=>k (.row n f::l))
  | false=>False
 | _,_,_=>False
def takeB:List (Option Nat)→Nat→(Nat→SC)→Nat→(List Seg→Prop)→Prop
 | [],_,_,_,k=>k []
 | none::sh,n,f,o,k=>o<n∧takeB sh n f (o+1) (fun l=>frcSC (f o) fun x=>k (.one x::l))
 | some m::sh,n,f,o,k=>o+m≤n∧takeB sh n f (o+m) (fun l=>k (.row m (fun j=>f (j+o))::l))
def loadS (sh:List (Option Nat)) (l:List Seg) (b o:Nat) (k:List Seg→Prop):Prop :=
 match segs? l b with
 | some (.one x::r)=>match o with
  | 0=>takeA sh (.one x::r) k
  | _+1=>False
 | some (.row n f::r)=>match sh with
  | [none]=>o<n∧frcSC (f o) fun x=>k [.one x]
  | [some m]=>o+m≤n∧k [.row m (fun j=>f (j+o))]
  | some m::sh=>match o with
   | 0=>takeA (some m::sh) (.row n f::r) k
   | _+1=>False
  | sh=>takeB sh n f o k
 | _=>False
def upd (f:Nat→SC) (o:Nat) (x:SC):Nat→SC:=fun j=>if j=o then x else f j
def updN (f:Nat→SC) (o m:Nat) (g:Nat→SC):Nat→SC:=fun j=>if o≤j∧j<o+m then g (j-o) else f j
def nthC:List SC→Nat→SC
 | [],_=>.any
 | x::_,0=>x
 | _::r,n+1=>nthC r n
def putA:List Seg→List Seg→(List Seg→Prop)→Prop
 | [],l,k=>k l
 | .one x::new,.one _::r,k=>putA new r (fun l=>k (.one x::l))
 | .row m g::new,.row n _::r,k=>match Nat.beq m n with
  | true=>putA new r (fun l=>k (.row m g::l))
  | false=>False
 | _,_,_=>False
def putR (new:List Seg) (n:Nat) (f:Nat→SC) (o:Nat) (r:List Seg) (k:List Seg→Prop):Prop :=
 match new with
 | [.one x]=>o<n∧k (.row n (upd f o x)::r)
 | [.row m g]=>match Nat.beq m n with
  | true=>o=0∧k (.row n g::r)
  | false=>o+m≤n∧k (.row n (updN f o m g)::r)
 | .row m g::new=>match o with
  | 0=>putA (.row m g::new) (.row n f::r) k
  | _+1=>False
 | new=>o+(flat new).length≤n∧k (.row n (updN f o (flat new).length (nthC (flat new)))::r)
def putS (new:List Seg):List Seg→Nat→Nat→(List Seg→Prop)→Prop
 | .one y::r,0,o,k=>match o with
  | 0=>putA new (.one y::r) k
  | _+1=>False
 | .row n f::r,0,o,k=>putR new n f o r k
 | .one y::r,b+1,o,k=>putS new r b o (fun l=>k (.one y::l))
 | .row n f::r,b+1,o,k=>match Nat.ble n (b+1) with
  | true=>putS new r (b+1-n) o (fun l=>k (.row n f::l))
  | false=>False
 | .obj _::_,_,_,_=>False
 | .past _ _::_,_,_,_=>False
 | [],_,_,_=>False
/-! Numbers. -/
def wbin {n:Nat} (mk:BitVec n→SC) (op:BinOp) (x y:BitVec n) (K:SC→Prop):Prop:=match op with
 | .add=>K (mk (x+y))
 | .sub=>K (mk (x-y))
 | .mul=>K (mk (x*y))
 | .and=>K (mk (x &&& y))
 | .or=>K (mk (x ||| y))
 | .xor=>K (mk (x ^^^ y))
 | .andNot=>K (mk (x &&& ~~~y))
 | .quo=>y≠0∧K (mk (x / y))
 | .rem=>y≠0∧K (mk (x % y))
 | .eql=>K (.bool (decide (x=y)))
 | .neq=>K (.bool (decide (x≠y)))
 | .lss=>K (.bool (decide (x<y)))
 | .leq=>K (.bool (decide (x≤y)))
 | .gtr=>K (.bool (decide (y<x)))
 | .geq=>K (.bool (decide (y≤x)))
 | _=>False
def ibin (op:BinOp) (a b:Int) (K:SC→Prop):Prop:=match op with
 | .add=>(-9223372036854775808≤a+b∧a+b≤9223372036854775807)∧K (.int .i64 (a+b))
 | .sub=>(-9223372036854775808≤a-b∧a-b≤9223372036854775807)∧K (.int .i64 (a-b))
 | .mul=>(-9223372036854775808≤a*b∧a*b≤9223372036854775807)∧K (.int .i64 (a*b))
 | .quo=>(0≤a∧0<b∧a≤9223372036854775807)∧K (.int .i64 (a / b))
 | .rem=>(0≤a∧0<b)∧K (.int .i64 (a % b))
 | .and=>(0≤a∧0≤b∧a≤9223372036854775807∧b≤9223372036854775807)∧K (.int .i64 ((a.toNat &&& b.toNat:Nat):Int))
 | .or=>(0≤a∧0≤b∧a≤9223372036854775807∧b≤9223372036854775807)∧K (.int .i64 ((a.toNat ||| b.toNat:Nat):Int))
 | .xor=>(0≤a∧0≤b∧a≤9223372036854775807∧b≤9223372036854775807)∧K (.int .i64 ((a.toNat ^^^ b.toNat:Nat):Int))
 | .eql=>K (.bool (decide (a=b)))
 | .neq=>K (.bool (decide (a≠b)))
 | .lss=>K (.bool (decide (a<b)))
 | .leq=>K (.bool (decide (a≤b)))
 | .gtr=>K (.bool (decide (b<a)))
 | .geq=>K (.bool (decide (b≤a)))
 | _=>False
def jbin (op:BinOp) (a b:Int) (K:SC→Prop):Prop:=match op with
 | .add=>(-2147483648≤a+b∧a+b≤2147483647)∧K (.int .i32 (a+b))
 | .sub=>(-2147483648≤a-b∧a-b≤2147483647)∧K (.int .i32 (a-b))
 | .and=>(0≤a∧0≤b∧a≤2147483647∧b≤2147483647)∧K (.int .i32 ((a.toNat &&& b.toNat:Nat):Int))
 | .or=>(0≤a∧0≤b∧a≤2147483647∧b≤2147483647)∧K (.int .i32 ((a.toNat ||| b.toNat:Nat):Int))
 | .eql=>K (.bool (decide (a=b)))
 | .neq=>K (.bool (decide (a≠b)))
 | .lss=>K (.bool (decide (a<b)))
 | .leq=>K (.bool (decide (a≤b)))
 | .gtr=>K (.bool (decide (b<a)))
 | .geq=>K (.bool (decide (b≤a)))
 | _=>False
def below0:Int→Bool
 | .ofNat m=>Nat.ble 8192 m || Nat.beq m 50
 | _=>false
def mask10:Int→Bool
 | .ofNat m=>Nat.beq m 1023
 | _=>false
def ibinC (cn:Bool) (op:BinOp) (a b:Int) (K:SC→Prop):Prop:=match cn with
 | true=>match op with
  | .and=>match mask10 b with
   | true=>K (.int .i64 (a % 1024))
   | false=>ibin .and a b K
  | .rem=>match below0 b with
   | true=>0<b∧K (.int .i64 (Int.tmod a b))
   | false=>ibin .rem a b K
  | op=>ibin op a b K
 | false=>ibin op a b K
def amount (y:SC) (K:Nat→Prop):Prop:=match y with
 | .w8 y=>K (y.toNat)
 | .w16 y=>K (y.toNat)
 | .w32 y=>K (y.toNat)
 | .w64 y=>K (y.toNat)
 | .int _ n=>0≤n∧K n.toNat
 | _=>False
def wsh {n:Nat} (mk:BitVec n→SC) (left:Bool) (x:BitVec n) (k:Nat) (K:SC→Prop):Prop:=match left with
 | true=>K (mk (x <<< k))
 | false=>K (mk (x >>> k))
def sh (left:Bool) (x:SC) (n:Nat) (K:SC→Prop):Prop:=match x with
 | .w8 x=>wsh (n:=8) .w8 left x n K
 | .w16 x=>wsh (n:=16) .w16 left x n K
 | .w32 x=>wsh (n:=32) .w32 left x n K
 | .w64 x=>wsh (n:=64) .w64 left x n K
 | .int .i64 a=>match left with
  | true=>(n<64∧-9223372036854775808≤a*2 ^ n∧a*2 ^ n≤9223372036854775807)∧K (.int .i64 (a*2 ^ n))
  | false=>n<64∧K (.int .i64 (a / 2 ^ n))
 | .int .i32 a=>match left with
  | true=>(n<32∧-2147483648≤a*2 ^ n∧a*2 ^ n≤2147483647)∧K (.int .i32 (a*2 ^ n))
  | false=>n<32∧K (.int .i32 (a / 2 ^ n))
 | _=>False
def isConst:Operand→Bool|.const _=>true|_=>false
def eqv (tk:TK) (cn:Bool) (x y:SC) (K:Bool→Prop):Prop:=match tk,x,y with
 | .bool,.bool a,.bool b=>K (a == b)
 | .ptr _,.p ..,.ptr none=>K false
 | .ptr _,.ptr none,.p ..=>K false
 | .ptr _,.ptr none,.ptr b=>K b.isNone
 | .ptr _,.ptr (some _),.ptr none=>K false
 | .slice _,.sl ..,.slc none _ _=>K false
 | .slice _,.slc none _ _,.sl ..=>K false
 | .slice _,.slc none _ _,.slc b _ _=>K b.isNone
 | .slice _,.slc (some _) _ _,.slc none _ _=>K false
 | .ifc,.nilIfc,.nilIfc=>match cn with
  | true=>K true
  | false=>False
 | .ifc,.ifc _ _,.nilIfc=>K false
 | .ifc,.nilIfc,.ifc _ _=>K false
 | .fn,.nilFn,.nilFn=>K true
 | .fn,.fnv _ _ _,.nilFn=>K false
 | .slice _,.sn z _ _ _ _ _,.slc none _ _=>K z
 | .slice _,.slc none _ _,.sn z _ _ _ _ _=>K z
 | _,_,_=>False
def bin (op:BinOp) (tk:TK) (cn:Bool) (x y:SC) (K:SC→Prop):Prop:=match op with
 | .shl=>False
 | .shr=>False
 | op=>match x,y with
  | .int .i64 a,.int .i64 b=>ibinC cn op a b K
  | .int .i32 a,.int .i32 b=>jbin op a b K
  | .w8 a,.w8 b=>wbin (n:=8) .w8 op a b K
  | .w16 a,.w16 b=>wbin (n:=16) .w16 op a b K
  | .w32 a,.w32 b=>wbin (n:=32) .w32 op a b K
  | .w64 a,.w64 b=>wbin (n:=64) .w64 op a b K
  | .str a,.str b=>match op with
   | .add=>a.length+b.length≤9223372036854775807∧K (.str (a++b))
   | .eql=>K (.bool (decide (a=b)))
   | .neq=>K (.bool (!decide (a=b)))
   | _=>False
  | x,y=>match op with
   | .eql=>eqv tk cn x y fun b=>K (.bool b)
   | .neq=>eqv tk cn x y fun b=>K (.bool (!b))
   | _=>False
def un (op:UnOp) (x:SC) (K:SC→Prop):Prop:=match op,x with
 | .not,.bool b=>K (.bool (!b))
 | .neg,.int .i64 a=>(-9223372036854775808≤-a∧-a≤9223372036854775807)∧K (.int .i64 (-a))
 | .neg,.w8 x=>K (.w8 (-x))
 | .neg,.w16 x=>K (.w16 (-x))
 | .neg,.w32 x=>K (.w32 (-x))
 | .neg,.w64 x=>K (.w64 (-x))
 | .xor,.w8 x=>K (.w8 (~~~x))
 | .xor,.w16 x=>K (.w16 (~~~x))
 | .xor,.w32 x=>K (.w32 (~~~x))
 | .xor,.w64 x=>K (.w64 (~~~x))
 | _,_=>False
def ofW (x:SC) (K:(n:Nat)→BitVec n→Prop):Prop:=match x with
 | .w8 x=>K 8 x
 | .w16 x=>K 16 x
 | .w32 x=>K 32 x
 | .w64 x=>K 64 x
 | _=>False
def conv (dst:TK) (x:SC) (K:SC→Prop):Prop:=match dst,x with
 | .int .i64,.int .i64 a=>(-9223372036854775808≤a∧a≤9223372036854775807)∧K (.int .i64 a)
 | .int .u8,.int .i64 a=>K (.w8 (BitVec.ofInt 8 a))
 | .int .u16,.int .i64 a=>K (.w16 (BitVec.ofInt 16 a))
 | .int .u32,.int .i64 a=>K (.w32 (BitVec.ofInt 32 a))
 | .int .u64,.int .i64 a=>K (.w64 (BitVec.ofInt 64 a))
 | .str,.str l=>K (.str l)
 | .int .i64,.w64 x=>x.toNat≤9223372036854775807∧K (.int .i64 (x.toNat:Int))
 | .int .i64,.w8 x=>K (.int .i64 (x.toNat:Int))
 | .int .i64,.w16 x=>K (.int .i64 (x.toNat:Int))
 | .int .i64,.w32 x=>K (.int .i64 (x.toNat:Int))
 | .int .i32,.w8 x=>K (.int .i32 (x.toNat:Int))
 | .int .u8,.int .i32 a=>K (.w8 (BitVec.ofInt 8 a))
 | .int .u32,.int .i32 a=>K (.w32 (BitVec.ofInt 32 a))
 | .int .i64,.int .i32 a=>(-2147483648≤a∧a≤2147483647)∧K (.int .i64 a)
 | .int .u8,x=>ofW x fun _ x=>K (.w8 (x.setWidth 8))
 | .int .u16,x=>ofW x fun _ x=>K (.w16 (x.setWidth 16))
 | .int .u32,x=>ofW x fun _ x=>K (.w32 (x.setWidth 32))
 | .int .u64,x=>ofW x fun _ x=>K (.w64 (x.setWidth 64))
 | _,_=>False
def idx (x:SC) (K:Int→Prop):Prop:=match x with
 | .int _ n=>K n
 | x=>ofW x fun _ x=>K (x.toNat:Int)
inductive Keep where
 | free
 | all
 | only (l:List Nat)
def Keep.binds:Keep→Bool
 | .free=>false
 | _=>true
def memB:Nat→List Nat→Bool
 | _,[]=>false
 | x,y::r=>match Nat.beq x y with
  | true=>true
  | false=>memB x r
def Keeps (h h':List (List Seg)):Prop:=∀ (i:Nat) (W:World) (ms:List Nat),h[i]?=some [.past W ms]→∃ W' ms',h'[i]?=some [.past W' ms']∧Later W ms W' ms'
theorem Keeps.of {h h':List (List Seg)} (k:∀ (i:Nat) (W:World) (ms:List Nat),h[i]?=some [.past W ms]→h'[i]?=some [.past W ms]):Keeps h h':=fun i W ms e=>⟨W,ms,k i W ms e,Later.refl _ _⟩
theorem Keeps.refl (h:List (List Seg)):Keeps h h:=.of fun _ _ _ e=>e
theorem Keeps.trans {a b c:List (List Seg)} (h:Keeps a b) (k:Keeps b c):Keeps a c:=fun i W ms e =>
 let ⟨_,_,e1,h1⟩:=h i W ms e
 let ⟨_,_,e2,h2⟩:=k i _ _ e1
 ⟨_,_,e2,h1.trans h2⟩
theorem Keeps.snoc (h l:List (List Seg)):Keeps h (h++l):=.of fun i W ms e=>by
 have hi:i<h.length:=by
  rcases Nat.lt_or_ge i h.length with h1|h1
  ·exact h1
  ·rw [List.getElem?_eq_none h1] at e; cases e
 rw [List.getElem?_append_left hi]; exact e
theorem Keeps.set {h:List (List Seg)} {i:Nat} {ch:List Seg} (hi:h[i]?=some ch) (hs:stirs ch=true) (l:List Seg):Keeps h (h.set i l):=.of fun j W ms e=>by
 by_cases hij:i=j
 ·subst hij
  rw [hi] at e
  injection e with e
  subst e
  cases hs
 ·rw [List.getElem?_set_ne hij]; exact e
def Near (C:Cx) (h:List (List Seg)) (r:Rho) (l:List Nat) (w w':World):Prop:=Ext C.m C.w0 w'∧(∀ (i:Nat),i∈l→C.ro≤i→∀ (B f:Nat),r[i]?=some (B,f)→B<w.heap.size→w'.heap[B]?=w.heap[B]?) ∧
 ∀ (i:Nat) (W:World) (ms:List Nat),h[i]?=some [.past W ms]→Ext ms W w'
def Stand (C:Cx) (q:Keep) (h:List (List Seg)) (r:Rho) (w w':World):Prop:=match q with
 | .free=>True
 | .all=>Ext [] w w'
 | .only l=>Near C h r l w w'
structure Frm (C:Cx) (q:Keep) (h:List (List Seg)) (r:Rho) (w:World) (h':List (List Seg)) (r':Rho) (w':World):Prop where
 ext:Ext ((r.drop C.ro).map (·.1)) w w'
 fresh:∀ (i B f:Nat),C.ro≤i→r'[i]?=some (B,f)→B∈(r.drop C.ro).map (·.1)∨w.heap.size≤B
 stand:Stand C q h r w w'
 keeps:q.binds=true→Keeps h h'
 safe:∀ (i:Nat) (W:World) (ms:List Nat),h'[i]?=some [.past W ms]→∀ B,B<w.heap.size→B<W.heap.size→B ∉ ms→∃ (j:Nat) (W':World) (ms':List Nat),h[j]?=some [.past W' ms']∧B<W'.heap.size∧B ∉ ms'
def nmV:SV→List Nat
 | .a (.c (.p i _ _))=>[i]
 | .a (.c (.sl i _ _ _ _))=>[i]
 | .a (.c (.sn _ i _ _ _ _))=>[i]
 | .a (.c (.mh i))=>[i]
 | .a (.c (.ih i))=>[i]
 | _=>[]
def seen (t:List SV):Op→List Nat
 | .load _ x=>nmV (ev t x)
 | .convert _ _ x=>nmV (ev t x)
 | .lookup _ x _ _=>nmV (ev t x)
 | _=>[]
def seenOk (q:Keep) (ro:Nat) (l:List Nat):Bool:=match q with
 | .only m=>l.all fun i=>memB i m || Nat.blt i ro
 | _=>true
def pureOp:Op→Bool
 | .load ..=>false
 | .convert ..=>false
 | .lookup ..=>false
 | .binOp _ u _ _ _=>!(memB u ptrTs)
 | _=>true
def RawOld (C:Cx) (a:Addr) (l:List SC):Prop :=
 a.spot=none∧a.block<C.w0.heap.size∧a.block ∉ C.m∧∀ (j:Nat) (x:SC),l[j]?=some x→∃ v,C.w0.cell? ⟨a.block,a.off+j,none⟩=some v∧x.Is [] v
def RawAt (C:Cx) (h:List (List Seg)) (a:Addr) (l:List SC):Prop :=
 RawOld C a l∨∃ (i:Nat) (w1:World) (ms:List Nat),h[i]?=some [.past w1 ms]∧ImAt w1 ms a l
/-! Maps. -/
def MK.empty:MK→MapD
 | .w64=>.w64 []
 | .w8b=>.w8b []
 | .strs=>.strs []
def lookK {α β:Type} [DecidableEq α] (k:α) (d:β):List (α × β)→β
 | []=>d
 | x::r=>if k=x.1 then x.2 else lookK k d r
def hasK {α β:Type} [DecidableEq α] (k:α):List (α × β)→Bool
 | []=>false
 | x::r=>decide (k=x.1) || hasK k r
def putK {α β:Type} [DecidableEq α] (k:α) (v:β):List (α × β)→List (α × β)
 | []=>[(k,v)]
 | x::r=>if k=x.1 then (k,v)::r else x::putK k v r
def hasS (k:List UInt8):List (List UInt8)→Bool
 | []=>false
 | x::r=>decide (k=x) || hasS k r
def putL' (k:List UInt8) (l:List (List UInt8)):List (List UInt8):=match hasS k l with
 | true=>l
 | false=>l++[k]
def lookM (mk:MK) (m:MapD) (key:SC) (k:SA→Bool→Prop):Prop:=match mk,m,key with
 | .w64,.w64 l,.w64 x=>k (.c (.w64 (lookK x 0#64 l))) (hasK x l)
 | .w8b,.w8b l,.w8 x=>k (.c (.bool (lookK x false l))) (hasK x l)
 | .strs,.strs l,.str x=>k (.agg []) (hasS x l)
 | _,_,_=>False
def putM (mk:MK) (m:MapD) (key:SC) (v:SV) (k:MapD→Prop):Prop:=match mk,m,key,v with
 | .w64,.w64 l,.w64 x,.a (.c (.w64 y))=>k (.w64 (putK x y l))
 | .w8b,.w8b l,.w8 x,.a (.c (.bool y))=>k (.w8b (putK x y l))
 | .strs,.strs l,.str x,.a (.agg [])=>k (.strs (putL' x l))
 | _,_,_,_=>False
section
variable (C : Cx)
def td (t:Nat) (k:TD→Prop):Prop:=match findT C.T t with
 | some ⟨a,b,c,d⟩=>k ⟨a,b,c,d⟩
 | none=>False
def ofSegs (agg:Bool) (l:List Seg) (k:SV→Prop):Prop:=match agg with
 | true=>k (.a (.agg l))
 | false=>match l with
  | [.one x]=>k (.a (.c x))
  | _=>False
def toSegs (x:SV) (k:List Seg→Prop):Prop:=match x with
 | .a (.c x)=>k [.one x]
 | .a (.agg l)=>k l
 | _=>False
def asC (x:SV) (k:SC→Prop):Prop:=match x with
 | .a (.c x)=>frcSC x k
 | _=>False
def nthF:List (Nat × Nat)→Nat→Option (Nat × Nat)
 | [],_=>none
 | x::_,0=>some x
 | _::r,n+1=>nthF r n
def nthA:List SA→Nat→(SA→Prop)→Prop
 | .c x::_,0,k=>k (.c x)
 | .agg l::_,0,k=>k (.agg l)
 | _::r,n+1,k=>nthA r n k
 | [],_,_=>False
def buildL (t:List SV) (place:Nat→(Nat→Nat→Nat→Prop)→Prop):List (Nat × Operand)→List Seg→(List Seg→Prop)→Prop
 | [],l,k=>k l
 | (i,x)::r,l,k=>place i fun b o n=>toSegs (ev t x) fun new=>(flat new).length=n∧putS new l b o fun l=>buildL t place r l k
def buildR (t:List SV):List (Nat × Operand)→List SC→(List SC→Prop)→Prop
 | [],l,k=>k l
 | (i,x)::r,l,k=>asC (ev t x) fun x=>setC l i x fun l=>buildR t r l k
where setC:List SC→Nat→SC→(List SC→Prop)→Prop
 | [],_,_,_=>False
 | _::r,0,x,k=>k (x::r)
 | y::r,n+1,x,k=>setC r n x fun r=>k (y::r)
def reps:Nat→SC→(List SC→Prop)→Prop
 | 0,_,k=>k []
 | n+1,x,k=>reps n x fun l=>k (x::l)
def rowSC:Nat→Nat→(Nat→SC)→(List SC→Prop)→Prop
 | 0,_,_,k=>k []
 | n+1,i,f,k=>frcSC (f i) fun x=>rowSC n (i+1) f fun l=>k (x::l)
theorem rowSC_eq:∀ (n i:Nat) (f:Nat→SC) (k:List SC→Prop),rowSC n i f k=k ((List.range' i n).map f)
 | 0,_,_,_=>rfl
 | n+1,i,f,k=>by rw [rowSC,frcSC_eq,rowSC_eq n (i+1) f]; rfl
theorem reps_eq:∀ (n:Nat) (x:SC) (k:List SC→Prop),reps n x k=k (List.replicate n x)
 | 0,_,_=>rfl
 | n+1,x,k=>by rw [reps,reps_eq n x]; rfl
def bound (t:List SV) (dflt:Nat):Option Operand→(Int→Prop)→Prop
 | none,k=>k (dflt:Int)
 | some x,k=>asC (ev t x) fun x=>idx x k
def bounds (t:List SV) (n c:Nat) (lo hi mx:Option Operand) (k:Nat→Nat→Nat→Prop):Prop :=
 match mx with
 | some _=>match hi with
  | some _=>bound t 0 mx fun m=>bound t n hi fun h=>bound t 0 lo fun l=>(0≤l∧l≤h∧h≤m∧m≤(c:Int))∧frcN l.toNat fun l=>frcN h.toNat fun h=>frcN m.toNat fun m=>k l h m
  | none=>False
 | none=>bound t n hi fun h=>bound t 0 lo fun l=>(0≤l∧l≤h∧h≤(c:Int))∧frcN l.toNat fun l=>frcN h.toNat fun h=>k l h c
def isNum:IntKind→SC→Bool
 | .i64,.int .i64 _=>true
 | .u8,.w8 _=>true
 | .u16,.w16 _=>true
 | .u32,.w32 _=>true
 | .u64,.w64 _=>true
 | _,_=>false
def allIn (T:List (Nat × TD)):List (Nat × Nat)→Bool
 | []=>true
 | (e,_)::r=>match findT T e with
  | some _=>allIn T r
  | none=>false
def amt (t:List SV) (y:Operand) (K:Nat→Prop):Prop:=match y with
 | .const (.int _ (.ofNat m))=>K m
 | y=>asC (ev t y) fun y=>amount y K
def scale (n sz:Nat):Nat:=match sz with
 | 1=>n
 | sz=>n*sz
theorem scale_eq (n sz:Nat):scale n sz=n*sz:=by
 unfold scale
 split
 ·simp
 ·rfl
def SnAt (h:List (List Seg)) (j b o m sz:Nat) (f:Nat→SC):Prop :=
 ∃ N g tl,segs? (getH h j) b=some (.row N g::tl)∧o+scale m sz≤N∧∀ q,q<scale m sz→f q=g (q+o)
def srcC (sz:Nat) (h:List (List Seg)) (x:SV) (k:Nat→(Nat→SC)→Prop):Prop:=match x with
 | .a (.c (.sl j b o m _))=>match segs? (getH h j) b with
  | some (.row N f::_)=>o+scale m sz≤N∧k m (fun q=>f (q+o))
  | _=>False
 | .a (.c (.slc none m _))=>m=0∧k 0 (fun _=>.any)
 | .a (.c (.slc (some a) m _))=>∃ f,(m=0∨RawAt C h a ((List.range (m*sz)).map f))∧k m f
 | .a (.c (.str l))=>match sz with
  | 1=>k l.length (fun q=>.w8 (l.getD q 0).toBitVec)
  | _=>False
 | .a (.c (.sn z j b o m _))=>∃ f:Nat→SC,((z=true→m=0)∧(z=false→SnAt h j b o m sz f))∧k m f
 | _=>False
def elt (n:Int) (sz o:Nat) (K:Nat→Prop):Prop:=match sz with
 | 1=>K (n.toNat+o)
 | sz=>K (n.toNat*sz+o)
def arrS (op:BinOp) (n e:Nat) (x y:SV) (k:SV→Prop):Prop:=td C e fun de=>match de.k,de.isAgg with
 | .int kk,false=>match x,y with
  | .a (.agg [.row n1 f]),.a (.agg [.row n2 g])=>(n1=n∧n2=n∧(∀ j,j<n→isNum kk (f j)=true)∧∀ j,j<n→isNum kk (g j)=true)∧∀ b:Bool,(b=true ↔ ∀ j,j<n→f j=g j)→match op with
   | .eql=>k (.a (.c (.bool b)))
   | .neq=>k (.a (.c (.bool (!b))))
   | _=>False
  | _,_=>False
 | .str,false=>match x,y with
  | .a (.agg [.row n1 f]),.a (.agg [.row n2 g])=>(n1=n∧n2=n∧∀ j,j<n→∃ s:List UInt8,f j=.str s∧g j=.str s)∧match op with
   | .eql=>k (.a (.c (.bool true)))
   | .neq=>k (.a (.c (.bool false)))
   | _=>False
  | _,_=>False
 | _,_=>False
def strOk (f g:Nat→SC):List (Nat × Nat)→Prop
 | []=>True
 | (t,o)::r=>(td C t fun d=>match d.k with
  | .array n e=>td C e fun de=>match de.k,de.isAgg with
   | .int kk,false=>d.size=n∧∀ j,j<n→isNum kk (f (o+j))=true∧f (o+j)=g (o+j)
   | _,_=>False
  | _=>False)∧strOk f g r
def strS (op:BinOp) (u:TypeId) (fs:List (Nat × Nat)) (x y:SV) (k:SV→Prop):Prop:=match x,y with
 | .a (.agg l1),.a (.agg l2)=>(C.P.stoodInHeld u=false∧C.P.eqGuardType C.P.depth u=false∧strOk C (nthC (flat l1)) (nthC (flat l2)) fs)∧match op with
  | .eql=>k (.a (.c (.bool true)))
  | .neq=>k (.a (.c (.bool false)))
  | _=>False
 | _,_=>False
def ptrS (h:List (List Seg)) (op:BinOp) (u e:Nat) (cn:Bool) (x y:SV) (k:SV→Prop):Prop:=match x,y with
 | .a (.c (.ptr (some a))),.a (.c (.ptr (some b)))=>match op with
  | .eql=>memB u ptrTs=true∧(td C e fun de=>match de.size with
   | 0=>False
   | _+1=>(a=b→k (.a (.c (.bool true))))∧(a≠b→(∃ (i:Nat) (W:World) (ms:List Nat),h[i]?=some [.past W ms]∧Unm W ms a∧Unm W ms b)∧k (.a (.c (.bool false)))))
  | _=>False
 | x,y=>asC x fun a=>asC y fun b=>bin op (.ptr e) cn a b fun v=>k (.a (.c v))
def maxI (t:List SV):List Operand→Int→(Int→Prop)→Prop
 | [],a,k=>k a
 | y::r,a,k=>asC (ev t y) fun
  | .int .i64 b=>maxI t r (if a<b then b else a) k
  | _=>False
def maxW (t:List SV):List Operand→BitVec 64→(BitVec 64→Prop)→Prop
 | [],a,k=>k a
 | y::r,a,k=>asC (ev t y) fun
  | .w64 b=>maxW t r (if a<b then b else a) k
  | _=>False
def stepR (o:Op) (t:List SV) (h:List (List Seg)) (k:SV→Prop):Prop:=match o with
 | .move x=>k (ev t x)
 | .assign x=>k (ev t x)
 | .pick c a b=>asC (ev t c) fun
  | .bool v=>(v=true→k (ev t a))∧(v=false→k (ev t b))
  | _=>False
 | .nilCheck x=>asC (ev t x) fun
  | .p i b o=>k (.a (.c (.p i b o)))
  | .ptr (some a)=>k (.a (.c (.ptr (some a))))
  | .fnv (.func f) a b=>k (.a (.c (.fnv (.func f) a b)))
  | _=>False
 | .binOp .shl _ x y _=>asC (ev t x) fun a=>amt t y fun n=>sh true a n fun v=>k (.a (.c v))
 | .binOp .shr _ x y _=>asC (ev t x) fun a=>amt t y fun n=>sh false a n fun v=>k (.a (.c v))
 | .binOp op u x y _=>td C u fun d=>match d.k with
  | .array n e=>arrS C op n e (ev t x) (ev t y) k
  | .struct fs=>strS C op u fs (ev t x) (ev t y) k
  | .ptr e=>ptrS C h op u e (isConst x || isConst y) (ev t x) (ev t y) k
  | _=>asC (ev t x) fun a=>asC (ev t y) fun b=>bin op d.k (isConst x || isConst y) a b fun v=>k (.a (.c v))
 | .unOp op _ x=>asC (ev t x) fun a=>un op a fun v=>k (.a (.c v))
 | .convert s d x=>td C s fun ds=>td C d fun d=>match ds.k,d.k with
  | .slice e,.str=>td C e fun de=>match de.k with
   | .int .u8=>srcC C 1 h (ev t x) fun m g=>∃ l:List UInt8,(l.length=m∧∀ q,q<m→g q=.w8 (l.getD q 0).toBitVec)∧k (.a (.c (.str l)))
   | _=>False
  | _,_=>asC (ev t x) fun a=>conv d.k a fun v=>k (.a (.c v))
 | .makeInterface u x=>td C u fun d=>match d.k with
  | .ifc=>False
  | _=>asC (ev t x) fun a=>match a.plain with
   | true=>k (.a (.c (.ifc u a.val)))
   | false=>False
 | .makeFunc (.func f) first cap=>match first.toList,cap.toList with
  | [],[]=>k (.a (.c (.fnv (.func f) #[] #[])))
  | [x],[]=>asC (ev t x) fun
   | .p i b o=>k (.a (.c (.clo f i b o)))
   | _=>False
  | [],[x]=>asC (ev t x) fun
   | .p i b o=>k (.a (.c (.cap f i b o)))
   | _=>False
  | [],[x,y]=>asC (ev t x) fun
   | .p i b o=>asC (ev t y) fun
    | .p j c p=>k (.a (.c (.cap2 f i b o j c p)))
    | _=>False
   | _=>False
  | _,_=>False
 | .load u x=>td C u fun d=>asC (ev t x) fun
  | .p i b o=>loadS (shape d.zero) (getH h i) b o fun l=>ofSegs d.isAgg l k
  | .ptr (some a)=>∃ l,(RawAt C h a (flat l)∧(flat l).length=d.size)∧ofSegs d.isAgg l k
  | _=>False
 | .fieldAddr u x f=>td C u fun d=>match d.k with
  | .struct fs=>match nthF fs f with
   | some (e,off)=>td C e fun de=>match de.size with
    | 0=>False
    | _+1=>asC (ev t x) fun
    | .p i b o=>match segs? (getH h i) b,d.zero with
     | some (.row _ _::_),.one _::_=>frcN (o+off) fun o=>k (.a (.c (.p i b o)))
     | _,_=>frcN (b+off) fun b=>k (.a (.c (.p i b o)))
    | .ptr (some a)=>k (.a (.c (.ptr (some (a.add off)))))
    | _=>False
   | none=>False
  | _=>False
 | .indexAddr u x ix=>td C u fun d=>asC (ev t ix) fun ix=>idx ix fun n=>match d.k with
  | .array len e=>td C e fun de=>asC (ev t x) fun
   | .p i b o=>(0≤n∧n<(len:Int))∧elt n de.size o fun o=>k (.a (.c (.p i b o)))
   | .ptr (some a)=>(0≤n∧n<(len:Int))∧k (.a (.c (.ptr (some (a.add (n.toNat*de.size))))))
   | _=>False
  | .slice e=>td C e fun de=>asC (ev t x) fun
   | .sl i b o len _=>(0≤n∧n<(len:Int))∧elt n de.size o fun o=>k (.a (.c (.p i b o)))
   | .slc (some a) len _=>(0≤n∧n<(len:Int))∧k (.a (.c (.ptr (some (a.add (n.toNat*de.size))))))
   | .sn _ i b o len _=>(0≤n∧n<(len:Int))∧elt n de.size o fun o=>k (.a (.c (.p i b o)))
   | _=>False
  | _=>False
 | .index u x ix=>td C u fun d=>asC (ev t ix) fun ix=>idx ix fun n=>match d.k,ev t x with
  | .str,.a (.c (.str l))=>(0≤n∧n<(l.length:Int))∧k (.a (.c (.w8 (l.getD n.toNat 0).toBitVec)))
  | .array len e,.a (.agg l)=>td C e fun de=>(0≤n∧n<(len:Int))∧elt n de.size 0 fun o=>loadS (shape de.zero) l 0 o fun l=>ofSegs de.isAgg l k
  | _,_=>False
 | .field u x f=>td C u fun d=>match d.k,ev t x with
  | .struct fs,.a (.agg l)=>match nthF fs f with
   | some (e,off)=>td C e fun de=>loadS (shape de.zero) l off 0 fun l=>ofSegs de.isAgg l k
   | none=>False
  | _,_=>False
 | .build u parts=>td C u fun d=>match d.k with
  | .struct fs=>match allIn C.T fs with
   | true=>buildL t (fun i k=>match nthF fs i with|some (e,off)=>td C e fun de=>k off 0 de.size|none=>False) parts.toList d.zero fun l=>k (.a (.agg l))
   | false=>False
  | .array _ e=>td C e fun de=>match de.zero,d.zero with
   | [.one _],[.row m f]=>rowSC m 0 f fun z=>buildR t parts.toList z fun l=>k (.a (.agg [.row m (nthC l)]))
   | _,z=>buildL t (fun i k=>frcN (i*de.size) fun o=>k 0 o de.size) parts.toList z fun l=>k (.a (.agg l))
  | _=>False
 | .lookup u x y ok=>td C u fun d=>match d.k,ev t x with
  | .map mk,.a (.c (.mh i))=>match Nat.ble C.ro i,getH h i with
   | true,[.obj m]=>asC (ev t y) fun key=>lookM mk m key fun v b=>match ok with
    | true=>k (.tup [v,.c (.bool b)])
    | false=>k (.a v)
   | _,_=>False
  | _,_=>False
 | .extract x i=>match ev t x with
  | .tup l=>nthA l i fun v=>k (.a v)
  | _=>False
 | .slice u x lo hi mx=>td C u fun d=>match d.k,ev t x with
  | .str,.a (.c (.str l))=>match mx with
   | none=>bounds t l.length l.length lo hi none fun a b _=>k (.a (.c (.str ((l.drop a).take (b-a)))))
   | some _=>False
  | .slice e,.a (.c (.sl i b o n c))=>td C e fun de=>bounds t n c lo hi mx fun l h m=>frcN (if m=l then o else o+l*de.size) fun o=>frcN (h-l) fun n=>frcN (m-l) fun c=>k (.a (.c (.sl i b o n c)))
  | .slice e,.a (.c (.slc a n c))=>td C e fun de=>bounds t n c lo hi mx fun l h m=>frcN (h-l) fun n=>frcN (m-l) fun c=>k (.a (.c (.slc (if m=l then a else a.map (·.add (l*de.size))) n c)))
  | .array len e,.a (.c (.p i b o))=>td C e fun de=>bounds t len len lo hi mx fun l h m=>frcN (if m=l then o else o+l*de.size) fun o=>frcN (h-l) fun n=>frcN (m-l) fun c=>k (.a (.c (.sl i b o n c)))
  | .ptr q,.a (.c (.p i b o))=>td C q fun dq=>match dq.k with
   | .array len e=>td C e fun de=>bounds t len len lo hi mx fun l h m=>frcN (if m=l then o else o+l*de.size) fun o=>frcN (h-l) fun n=>frcN (m-l) fun c=>k (.a (.c (.sl i b o n c)))
   | _=>False
  | .slice e,.a (.c (.sn z i b o n c))=>td C e fun de=>bounds t n c lo hi mx fun l h m=>frcN (if m=l then o else o+l*de.size) fun o=>frcN (h-l) fun n=>frcN (m-l) fun c=>k (.a (.c (.sn z i b o n c)))
  | _,_=>False
 | .call ⟨.builtin .len,args,ts⟩=>match args.toList,ts.toList with
  | [x],u::_=>td C u fun d=>match d.k,ev t x with
   | .str,.a (.c (.str l))=>k (.a (.c (.int .i64 (l.length:Int))))
   | .slice _,.a (.c (.sl _ _ _ n _))=>k (.a (.c (.int .i64 (n:Int))))
   | .slice _,.a (.c (.slc _ n _))=>k (.a (.c (.int .i64 (n:Int))))
   | .slice _,.a (.c (.sn _ _ _ _ n _))=>k (.a (.c (.int .i64 (n:Int))))
   | _,_=>False
  | _,_=>False
 | .call ⟨.builtin .min,args,_⟩=>match args.toList with
  | [x,y]=>asC (ev t x) fun a=>asC (ev t y) fun b=>match a,b with
   | .int .i64 a,.int .i64 b=>k (.a (.c (.int .i64 (if b<a then b else a))))
   | .w64 a,.w64 b=>k (.a (.c (.w64 (if b<a then b else a))))
   | _,_=>False
  | _=>False
 | .call ⟨.builtin .max,args,_⟩=>match args.toList with
  | x::rest=>asC (ev t x) fun
   | .int .i64 a=>maxI t rest a fun n=>k (.a (.c (.int .i64 n)))
   | .w64 a=>maxW t rest a fun n=>k (.a (.c (.w64 n)))
   | _=>False
  | _=>False
 | _=>False
def appF (f:Nat→SC) (o n m:Nat) (g:Nat→SC):Nat→SC:=fun q=>if q<n then f (q+o) else if q<n+m then g (q-n) else .any
def newF (m:Nat) (g:Nat→SC):Nat→SC:=fun q=>if q<m then g q else .any
def isIntK:TK→Bool
 | .int _=>true
 | _=>false
def appS (t:List SV) (h:List (List Seg)) (args:List Operand) (ts:List TypeId) (k:SV→List (List Seg)→Prop):Prop:=match args,ts with
 | [s,x],u::u2::_=>td C u fun d=>match d.k with
  | .slice e=>td C e fun de=>td C u2 fun d2=>match isIntK d2.k,de.size,de.bytes with
   | false,sz+1,by_+1=>srcC C (sz+1) h (ev t x) fun m g=>match ev t s with
    | .a (.c (.slc none n c))=>(n=0∧c=0)∧m*(by_+1)≤140737488355328∧(m=0→k (.a (.c (.slc none 0 0))) h) ∧
     (0<m→∀ c',m≤c'→addH h [.row (scale c' (sz+1)) (newF (scale m (sz+1)) g)] 0 fun i h=>k (.a (.c (.sl i 0 0 m c'))) h)
    | .a (.c (.sl i 0 o n c))=>match Nat.ble C.ro i,getH h i with
     | true,[.row N f]=>(n≤c∧o+scale c (sz+1)≤N∧(n+m)*(by_+1)≤140737488355328) ∧
      ∀ c',n+m≤c'→setH h i [] fun h=>addH h [.row (scale c' (sz+1)) (appF f o (scale n (sz+1)) (scale m (sz+1)) g)] 0 fun i h=>k (.a (.c (.sl i 0 0 (n+m) c'))) h
     | true,[.row N f,.row 0 z]=>(n≤c∧o+scale c (sz+1)≤N∧(n+m)*(by_+1)≤140737488355328) ∧
      (n+m≤c→setH h i [.row N (updN f (o+scale n (sz+1)) (scale m (sz+1)) g),.row 0 z] fun h=>k (.a (.c (.sl i 0 o (n+m) c))) h) ∧
      (∀ c',n+m≤c'→addH h [.row (scale c' (sz+1)) (appF f o (scale n (sz+1)) (scale m (sz+1)) g)] 0 fun i h=>k (.a (.c (.sl i 0 0 (n+m) c'))) h)
     | _,_=>False
    | .a (.c (.sn z _ _ _ 0 0))=>m*(by_+1)≤140737488355328∧(m=0→(z=true→k (.a (.c (.slc none 0 0))) h)∧(z=false→∀ (B f:Nat) (s:Option Nat),k (.a (.c (.slc (some ⟨B,f,s⟩) 0 0))) h)) ∧
     (0<m→∀ c',m≤c'→addH h [.row (scale c' (sz+1)) (newF (scale m (sz+1)) g)] 0 fun i h=>k (.a (.c (.sl i 0 0 m c'))) h)
    | _=>False
   | _,_,_=>False
  | _=>False
 | _,_=>False
def cpS (t:List SV) (h:List (List Seg)) (args:List Operand) (ts:List TypeId) (k:SV→List (List Seg)→Prop):Prop:=match args,ts with
 | [s,x],u::_=>td C u fun d=>match d.k with
  | .slice e=>td C e fun de=>match de.size with
   | 1=>srcC C 1 h (ev t x) fun m g=>match ev t s with
    | .a (.c (.sl i b o n _))=>match Nat.ble C.ro i with
     | true=>putRow (getH h i) b o (min m n) g fun l=>setH h i l fun h=>k (.a (.c (.int .i64 ((min m n:Nat):Int)))) h
     | false=>False
    | .a (.c (.slc none n _))=>n=0∧k (.a (.c (.int .i64 0))) h
    | _=>False
   | _=>False
  | _=>False
 | _,_=>False
where putRow:List Seg→Nat→Nat→Nat→(Nat→SC)→(List Seg→Prop)→Prop
 | .row n f::r,0,o,m,g,k=>o+m≤n∧k (.row n (updN f o m g)::r)
 | .one y::r,b+1,o,m,g,k=>putRow r b o m g (fun l=>k (.one y::l))
 | .row n f::r,b+1,o,m,g,k=>match Nat.ble n (b+1) with
  | true=>putRow r (b+1-n) o m g (fun l=>k (.row n f::l))
  | false=>False
 | _,_,_,_,_,_=>False
def stepC (o:Op) (t:List SV) (h:List (List Seg)) (k:SV→List (List Seg)→Prop):Prop:=match o with
 | .alloc u=>td C u fun d=>match hd1 d.zero with
  | true=>addH h d.zero 0 fun i h=>k (.a (.c (.p i 0 0))) h
  | false=>False
 | .box u x=>td C u fun d=>toSegs (ev t x) fun l=>match hd1 l with
  | true=>addH h l 0 fun i h=>(flat l).length=d.size∧k (.a (.c (.p i 0 0))) h
  | false=>False
 | .store u x y=>td C u fun d=>toSegs (ev t y) fun new=>asC (ev t x) fun
  | .p i b o=>match d.size with
   | 0=>(flat new).length=0∧k (.tup []) h
   | sz+1=>match Nat.ble C.ro i with
    | true=>putS new (getH h i) b o fun l=>setH h i l fun h=>(flat new).length=sz+1∧k (.tup []) h
    | false=>False
  | _=>False
 | .buildSlice u len parts=>td C u fun d=>match d.k with
  | .slice e=>td C e fun de=>match Nat.ble (len*de.size) 16777216,de.zero with
   | true,[.one z]=>reps len z fun z=>buildR t parts.toList z fun l=>addH h [.row len (nthC l)] 0 fun i h=>k (.a (.c (.sl i 0 0 len len))) h
   | true,z=>match de.size with
    | 0=>False
    | _+1=>frcN (len*de.size) fun n=>buildL t (fun i k=>frcN (i*de.size) fun o=>k 0 o de.size) parts.toList [.row n (fun j=>nthC (flat z) (j % de.size))] fun l=>addH h l 0 fun i h=>k (.a (.c (.sl i 0 0 len len))) h
   | _,_=>False
  | _=>False
 | .makeSlice u l c=>td C u fun d=>match d.k with
  | .slice e=>td C e fun de=>asC (ev t l) fun l=>idx l fun l=>asC (ev t c) fun c=>idx c fun c=>(0≤l∧l≤c∧c*de.bytes≤140737488355328∧c≤9223372036854775807) ∧
   frcN l.toNat fun l=>frcN c.toNat fun c=>match de.zero with
    | [.one z]=>addH h [.row c (fun _=>z)] 0 fun i h=>k (.a (.c (.sl i 0 0 l c))) h
    | z=>match de.size with
     | 0=>False
     | _+1=>addH h [.row (c*de.size) (fun j=>nthC (flat z) (j % de.size))] 0 fun i h=>k (.a (.c (.sl i 0 0 l c))) h
  | _=>False
 | .makeMap u res=>td C u fun d=>match d.k with
  | .map mk=>(match res with
   | none=>True
   | some x=>asC (ev t x) fun
    | .int _ _=>True
    | _=>False)∧addH h [.obj mk.empty] 0 fun i h=>k (.a (.c (.mh i))) h
  | _=>False
 | .mapUpdate u x y z=>td C u fun d=>match d.k,ev t x with
  | .map mk,.a (.c (.mh i))=>match Nat.ble C.ro i,getH h i with
   | true,[.obj m]=>asC (ev t y) fun key=>putM mk m key (ev t z) fun m=>setH h i [.obj m] fun h=>k (.tup []) h
   | _,_=>False
  | _,_=>False
 | .range u x=>td C u fun d=>match d.k,ev t x with
  | .str,.a (.c (.str l))=>addH h [.obj (.it l 0)] 0 fun i h=>k (.a (.c (.ih i))) h
  | _,_=>False
 | .next x true=>match ev t x with
  | .a (.c (.ih i))=>match Nat.ble C.ro i,getH h i with
   | true,[.obj (.it l pos)]=>(pos<l.length→setH h i [.obj (.it l (pos+(Utf8.decode ⟨l.toArray⟩ pos).2))] fun h=>k (.tup [.c (.bool true),.c (.int .i64 (pos:Int)),.c (.int .i32 ((Utf8.decode ⟨l.toArray⟩ pos).1:Int))]) h)∧(¬ pos<l.length→k (.tup [.c (.bool false)]) h)
   | _,_=>False
  | _=>False
 | .call ⟨.builtin .append,args,ts⟩=>appS C t h args.toList ts.toList k
 | .call ⟨.builtin .copy,args,ts⟩=>cpS C t h args.toList ts.toList k
 | .convert u v x=>td C u fun du=>td C v fun dv=>match du.k,dv.k,ev t x with
  | .str,.slice e,.a (.c (.str l))=>td C e fun de=>match de.k with
   | .int .u8=>match marksOk with
    | true=>∀ c',l.length≤c'→addH h [.row c' (fun q=>if q<l.length then .w8 (l.getD q 0).toBitVec else .w8 0)] 0 fun i h=>k (.a (.c (.sl i 0 0 l.length c'))) h
    | false=>False
   | _=>False
  | _,_,_=>False
 | _=>False
def isCh:Op→Bool
 | .alloc _|.box ..|.store ..|.buildSlice ..|.makeSlice ..|.makeMap ..|.mapUpdate ..|.range ..|.next ..=>true
 | .call ⟨.builtin .append,_,_⟩=>true
 | .call ⟨.builtin .copy,_,_⟩=>true
 | _=>false
def evs (t:List SV):List Operand→(List SA→Prop)→Prop
 | [],k=>k []
 | x::r,k=>match ev t x with
  | .a (.c x)=>frcSC x fun x=>evs t r fun l=>k (.c x::l)
  | .a (.agg g)=>evs t r fun l=>k (.agg g::l)
  | _=>False
def snocL:List SA→SA→(List SA→Prop)→Prop
 | [],y,k=>k [y]
 | x::r,y,k=>snocL r y fun l=>k (x::l)
theorem snocL_eq:∀ (l:List SA) (y:SA) (k:List SA→Prop),snocL l y k=k (l++[y])
 | [],_,_=>rfl
 | x::r,y,k=>by rw [snocL,snocL_eq r]; rfl
def IsAs (r:Rho) (l:List SA) (vs:List Value):Prop:=l.length=vs.length∧∀ (j:Nat) (x:SA),l[j]?=some x→∃ u,vs[j]?=some u∧SA.Is r x u
def callable (P : Program) (f : FuncId) : Bool := (P.funcs[f]?).any fun fn => fn.body.isSome && fn.name != "runtime.NumGoroutine"
def CallVC (q:Keep) (f:FuncId) (first:Array Value) (args:List SA) (cap:Array Value) (t:List SV) (h:List (List Seg)) (k:SV→List (List Seg)→Prop):Prop :=
 ∀ r a w vs,Ok C ⟨t,h⟩ r a w→IsAs r args vs→Calls C.P f (first++vs.toArray++cap) w fun e w' =>
  ∃ v x h' r',e=.returned v∧SV.Is r' x v∧RLe r r'∧HeapOk C h' r' w'∧Frm C q h r w h' r' w'∧k x h'
def isSt:Op→Bool
 | .store ..=>true
 | .mapUpdate ..=>true
 | .next ..=>true
 | .call ⟨.builtin .append,_,_⟩=>true
 | .call ⟨.builtin .copy,_,_⟩=>true
 | _=>false
def tgtOf:Op→Option Operand
 | .store _ x _=>some x
 | .mapUpdate _ x _ _=>some x
 | .next x _=>some x
 | .call ⟨.builtin .append,args,_⟩=>args.toList.head?
 | .call ⟨.builtin .copy,args,_⟩=>args.toList.head?
 | _=>none
def tgtN (t:List SV) (op:Op):Option Nat:=match tgtOf op with
 | some x=>match ev t x with
  | .a (.c (.p i _ _))=>some i
  | .a (.c (.sl i _ _ _ _))=>some i
  | .a (.c (.mh i))=>some i
  | .a (.c (.ih i))=>some i
  | _=>none
 | none=>none
def aptN (h:List (List Seg)) (i:Nat):List Nat→Bool
 | []=>true
 | j::l=>(match Nat.blt j h.length with
  | true=>!(Nat.beq j i) && (match getH h j with
   | []=>false
   | _=>true)
  | false=>true) && aptN h i l
def tgtOk (ro:Nat) (h:List (List Seg)) (l:List Nat) (i:Nat):Bool:=Nat.ble ro i && (match getH h i with
 | []=>false
 | _=>true) && aptN h i l
def tgtNil (t:List SV) (op:Op):Bool:=match tgtOf op with
 | some x=>match ev t x with
  | .a (.c (.slc none _ _))=>true
  | _=>false
 | none=>false
def step (q:Keep) (o:Oper) (t:List SV) (h:List (List Seg)) (k:SV→List (List Seg)→Prop):Prop:=match isCh o.op with
 | true=>match q.binds && isSt o.op with
  | true=>match tgtNil t o.op with
   | true=>stepC C o.op t h k
   | false=>match q,tgtN t o.op with
    | .only l,some i=>match tgtOk C.ro h l i with
     | true=>stepC C o.op t h k
     | false=>False
    | _,_=>False
  | false=>stepC C o.op t h k
 | false=>match o.op with
  | .call ⟨.value f,args,_⟩=>match ev t f with
   | .a (.c (.fnv (.func g) first cap))=>callable C.P g=true∧evs t args.toList fun l=>CallVC C q g first l cap t h k
   | .a (.c (.clo g i b o))=>callable C.P g=true∧evs t args.toList fun l=>CallVC C q g #[] (.c (.p i b o)::l) #[] t h k
   | .a (.c (.cap g i b o))=>callable C.P g=true∧evs t args.toList fun l=>snocL l (.c (.p i b o)) fun l=>CallVC C q g #[] l #[] t h k
   | .a (.c (.cap2 g i b o j c p))=>callable C.P g=true∧evs t args.toList fun l=>snocL l (.c (.p i b o)) fun l=>snocL l (.c (.p j c p)) fun l=>CallVC C q g #[] l #[] t h k
   | _=>False
  | .convert u v x=>td C u fun du=>td C v fun dv=>match du.k,dv.k with
   | .str,.slice _=>stepC C (.convert u v x) t h k
   | .slice _,.slice e=>match q with
    | .free=>td C e fun de=>match de.k,Nat.beq u v,ev t x with
     | .int .u8,true,.a (.c (.sl i b o n c))=>match Nat.ble C.ro i,Nat.blt i h.length,marksOk with
      | true,true,true=>k (.a (.c (.sl i b o n c))) h
      | _,_,_=>False
     | _,_,_=>False
    | _=>False
   | _,_=>stepR C (.convert u v x) t h fun x=>k x h
  | op=>stepR C op t h fun x=>k x h
def putD (d:Option Tmp) (x:SV) (t:List SV) (k:List SV→Prop):Prop:=match d with
 | some d=>frcV x fun x=>setT t d x k
 | none=>k t
def dstOf (ops:Array Oper) (j:Nat):Option Tmp:=(ops[j]?).bind (·.dst)
def guard (ops:Array Oper) (o:Oper) (t:List SV) (yes no:Prop):Prop:=match o.guard with
 | none=>yes
 | some (j,want)=>match dstOf ops j with
  | some d=>match getT t d with
   | .a (.c (.bool b))=>match want with
    | true=>(b=true→yes)∧(b=false→no)
    | false=>(b=false→yes)∧(b=true→no)
   | .tup []=>no
   | _=>False
  | none=>False
def one (q:Keep) (ops:Array Oper) (o:Oper) (s:St) (k:St→Prop):Prop:=match s with
 | ⟨t,h⟩=>guard ops o t (step C q o t h fun x h'=>putD o.dst x t fun t'=>k ⟨t',h'⟩) (putD o.dst (.tup []) t fun t'=>k ⟨t',h⟩)
def oneR (ops:Array Oper) (o:Oper) (s:St) (k:St→Prop):Prop:=match s with
 | ⟨t,h⟩=>guard ops o t (stepR C o.op t h fun x=>putD o.dst x t fun t'=>k ⟨t',h⟩) (putD o.dst (.tup []) t fun t'=>k ⟨t',h⟩)
def vcOps (ops:Array Oper):List Oper→St→(St→Prop)→Prop
 | [],s,K=>K s
 | o::rest,s,K=>one C .free ops o s fun s'=>vcOps ops rest s' K
end
end Sx
end
section
open Go.RowKit

section
variable {P : Program} {ops : Array Oper} {Q : Exit → Act → World → Prop} {md : Region.Mode} {S S' : World → Prop}
def Region.dir (md:Region.Mode) (ops:Array Oper) (j i:Nat):Bool:=match ops[j]? with
 | some oj=>oj.after.any fun e=>Region.binds md e && e.on == i
 | none=>false
def Region.reach (md:Region.Mode) (ops:Array Oper) (j:Nat):Nat→Nat→Bool
 | 0,i=>Region.dir md ops j i
 | n+1,i=>Region.dir md ops j i || (List.range ops.size).any fun k=>Region.dir md ops k i && Region.reach md ops j n k
def Region.waits (md:Region.Mode) (ops:Array Oper) (T:List Nat):Bool :=
 (List.range ops.size).all fun j=>T.contains j || T.all fun i=>Region.reach md ops j ops.size i
def Region.Closed (md:Region.Mode) (ops:Array Oper) (l:Array Bool):Prop :=
 ∀ j oj,ops[j]?=some oj→l.getD j true=true→∀ e∈oj.after,Region.binds md e=true→l.getD e.on true=true
theorem Region.Closed.start:Region.Closed md ops (Array.replicate ops.size false):=by
 intro j oj hj hl
 have hlt:=(Array.getElem?_eq_some_iff.1 hj).1
 rw [Array.getD_eq_getD_getElem?] at hl
 simp [hlt] at hl
theorem Region.Closed.set {l:Array Bool} {j:Nat} (h:Region.Closed md ops l) (hr:j∈Region.ready md ops l):Region.Closed md ops (l.setIfInBounds j true):=by
 have up:∀ i,l.getD i true=true→(l.setIfInBounds j true).getD i true=true:=by
  intro i hi
  by_cases hji:j=i
  ·subst hji
   rw [Array.getD_eq_getD_getElem?]
   by_cases h:j<l.size <;> simp [h]
  ·rw [getD_set_ne true hji]; exact hi
 intro k ok hk hl e he hb
 refine up _ ?_
 by_cases hjk:j=k
 ·subst hjk
  obtain ⟨_,oj,hoj,hall⟩:=mem_ready.1 hr
  rw [hk] at hoj
  injection hoj with hoj
  subst hoj
  have:=hall e he hb
  rw [Array.getD_eq_getD_getElem?]
  cases h2:l[e.on]? with
  | none=>rfl
  | some b=>simpa [h2] using this
 ·rw [getD_set_ne true hjk] at hl
  exact h k ok hk hl e he hb
theorem Region.dir_spec {j i:Nat} (h:Region.dir md ops j i=true):∃ oj,ops[j]?=some oj∧∃ e∈oj.after,Region.binds md e=true∧e.on=i:=by
 unfold Region.dir at h
 split at h
 ·rename_i oj hoj
  obtain ⟨e,he,hb⟩:=Array.any_eq_true'.1 h
  simp only [Bool.and_eq_true,beq_iff_eq] at hb
  exact ⟨oj,hoj,e,he,hb.1,hb.2⟩
 ·cases h
theorem Region.reach_spec {l:Array Bool} (hc:Region.Closed md ops l) {j:Nat}
  (hd:∀ oj,ops[j]?=some oj→∀ e∈oj.after,Region.binds md e=true→l.getD e.on true=true):∀ {n i:Nat},Region.reach md ops j n i=true→l.getD i true=true:=by
 have hdir:∀ {i:Nat},Region.dir md ops j i=true→l.getD i true=true:=fun h=>by
  obtain ⟨oj,hoj,e,he,hb,rfl⟩:=Region.dir_spec h
  exact hd oj hoj e he hb
 intro n
 induction n with
 | zero=>exact hdir
 | succ n ih =>
  intro i h
  unfold Region.reach at h
  rw [Bool.or_eq_true] at h
  rcases h with h|h
  ·exact hdir h
  ·obtain ⟨k,_,hk⟩:=List.any_eq_true.1 h
   rw [Bool.and_eq_true] at hk
   obtain ⟨ok,hok,e,he,hb,rfl⟩:=Region.dir_spec hk.1
   exact hc k ok hok (ih hk.2) e he hb
/-! ### The same moves with everything written out (the lists, the fuel, the slot): a generator prints them -/
end
end
section
open Go.RowKit

section
variable {P : Program} {ops : Array Oper} {Q : Exit → Act → World → Prop} {md : Region.Mode} {S S' : World → Prop}
def wpAnyT (P:Program) (md:Region.Mode) (ops:Array Oper) (Q:Exit→Act→World→Prop) (S:World→Prop) (T:List Nat):Nat→Array Bool→Act→World→Prop
 | 0,listed,a,w=>Region.ready md ops listed=[]∧Q .normal a w
 | fuel+1,listed,a,w=>(Region.ready md ops listed=[]→Q .normal a w) ∧
  ∀ i∈Region.ready md ops listed,wpOp P ops Q i (fun a' w'=>if T.contains i=true then S w'∧wpAnyT P md ops Q S T fuel (listed.setIfInBounds i true) a' w' else wpAny P md ops Q fuel (listed.setIfInBounds i true) a' w') a w
theorem wpAny_of_T {T:List Nat}:∀ {fuel:Nat} {listed:Array Bool} {a:Act} {w:World},wpAnyT P md ops Q S T fuel listed a w→wpAny P md ops Q fuel listed a w
 | 0,_,_,_,h=>h
 | fuel+1,listed,a,w,h=>⟨h.1,fun i hi=>wpOp_mono (fun a' w' h'=>by
   split at h'
   ·exact wpAny_of_T h'.2
   ·exact h') (h.2 i hi)⟩
theorem wpAnyT_mono (hS:∀ w,S' w→S w) {T:List Nat}:∀ {fuel:Nat} {listed:Array Bool} {a:Act} {w:World},wpAnyT P md ops Q S' T fuel listed a w→wpAnyT P md ops Q S T fuel listed a w
 | 0,_,_,_,h=>h
 | fuel+1,listed,a,w,h=>⟨h.1,fun i hi=>wpOp_mono (fun a' w' h'=>by
   split at h'
   ·rw [if_pos (by assumption)]
    exact ⟨hS _ h'.1,wpAnyT_mono hS h'.2⟩
   ·rw [if_neg (by assumption)]
    exact h') (h.2 i hi)⟩
theorem wpAnyT_end {T:List Nat} {fuel:Nat} {listed:Array Bool} {a:Act} {w:World} (hT:∀ i∈T,listed.getD i true=true) (h:wpAny P md ops Q fuel listed a w):wpAnyT P md ops Q S T fuel listed a w:=by
 cases fuel with
 | zero=>exact h
 | succ fuel =>
  refine ⟨h.1,fun i hi=>wpOp_mono (fun a' w' h'=>?_) (h.2 i hi)⟩
  rw [if_neg]
  ·exact h'
  ·intro hc
   have h1:=hT i (by simpa using hc)
   rw [(mem_ready.1 hi).1] at h1
   cases h1
theorem wpAnyT_in {T:List Nat} {fuel:Nat} {listed:Array Bool} {a:Act} {w:World} {j:Nat} (hj:j∈T) (h:wpOp P ops Q j (fun a' w'=>S w'∧wpAnyT P md ops Q S T fuel listed a' w') a w) :
  wpOp P ops Q j (fun a' w'=>if T.contains j=true then S w'∧wpAnyT P md ops Q S T fuel listed a' w' else wpAny P md ops Q fuel listed a' w') a w :=
 wpOp_mono (fun a' w' h'=>by rw [if_pos (by simpa using hj)]; exact h') h
def Region.waitsM (md:Region.Mode) (ops:Array Oper) (T M:List Nat):Bool :=
 (List.range ops.size).all fun j=>T.contains j || M.all fun i=>Region.reach md ops j ops.size i
theorem wpAnyT_first {T M:List Nat} {i:Nat} {oi:Oper} {v:Value} (hi:ops[i]?=some oi) (hiT:i∈T) (hiM:i∈M) (hw:Region.waitsM md ops T M=true) (hsel:∀ (j:Nat) (o:Oper) cs b,ops[j]?=some o→o.op≠.select cs b)
  (hQ:∀ c a w,Q (.panic c) (a.put oi.dst v) w→Q (.panic c) a w) :
  ∀ (fuel:Nat) (listed:Array Bool) (a:Act) (w:World),Region.Closed md ops listed →
   (∀ j oj,ops[j]?=some oj→j≠i→listed.getD j true=false→(∀ e∈oj.after,Region.binds md e=true→e.on≠i)→oi.apart ops oj=true) →
   i∈Region.ready md ops listed→YieldsIf P ops S oi v a→S w →
   wpAnyT P md ops Q S T fuel (listed.setIfInBounds i true) (a.put oi.dst v) w→wpAnyT P md ops Q S T (fuel+1) listed a w:=by
 intro fuel
 induction fuel with
 | zero =>
  intro listed a w _ _ hr hy hS H
  refine ⟨fun h=>(by rw [h] at hr; cases hr),fun j hj=>?_⟩
  by_cases hji:j=i
  ·subst hji; exact wpAnyT_in hiT (hy.wpOp hi hS ⟨hS,H⟩)
  ·have:=ready_mono hj hji
   rw [H.1] at this
   cases this
 | succ fuel ih =>
  intro listed a w hc hfree hr hy hS H
  refine ⟨fun h=>(by rw [h] at hr; cases hr),fun j hj=>?_⟩
  by_cases hji:j=i
  ·subst hji; exact wpAnyT_in hiT (hy.wpOp hi hS ⟨hS,H⟩)
  ·obtain ⟨hjun,oj,hoj,hall⟩:=mem_ready.1 hj
   have hnot:∀ e∈oj.after,Region.binds md e=true→e.on≠i:=fun e he hb heq=>by
    have h1:=hall e he hb
    have h0:=(mem_ready.1 hr).1
    rw [heq] at h1
    rcases Nat.lt_or_ge i listed.size with h'|h'
    ·simp [h'] at h0 h1; rw [h0] at h1; cases h1
    ·simp [Array.getElem?_eq_none h'] at h1
   have hjT:j∈T:=by
    have h1:=List.all_eq_true.1 hw j (List.mem_range.2 (Array.getElem?_eq_some_iff.1 hoj).1)
    rw [Bool.or_eq_true] at h1
    rcases h1 with h1|h1
    ·simpa using h1
    ·have h2:=Region.reach_spec hc (fun ok hk e he hb=>by
      rw [hoj] at hk
      injection hk with hk
      subst hk
      have:=hall e he hb
      rw [Array.getD_eq_getD_getElem?]
      cases h2:listed[e.on]? with
      | none=>rfl
      | some b=>simpa [h2] using this) (List.all_eq_true.1 h1 i hiM)
     rw [(mem_ready.1 hr).1] at h2
     cases h2
   have h1:=H.2 j (ready_mono hj hji)
   have h1:=wpOp_mono (Q:=Q) (fun a' w' h'=>by rw [if_pos (by simpa using hjT)] at h'; exact h') h1
   have h2:=wpOp_putIf hoj (hfree j oj hoj hji hjun hnot) (fun cs b=>hsel i oi cs b hi) (fun cs b=>hsel j oj cs b hoj) hQ hy h1
   have hfree':∀ k ok,ops[k]?=some ok→k≠i→(listed.setIfInBounds j true).getD k true=false →
     (∀ e∈ok.after,Region.binds md e=true→e.on≠i)→oi.apart ops ok=true:=fun k ok hk hki hun hno=>by
    refine hfree k ok hk hki ?_ hno
    by_cases hjk:j=k
    ·subst hjk; exact hjun
    ·rw [getD_set_ne true hjk] at hun; exact hun
   refine wpAnyT_in hjT (wpOp_mono (fun a' w' h3=>⟨h3.2.1,ih (listed.setIfInBounds j true) a' w' (hc.set hj) hfree' (ready_mono hr (Ne.symm hji)) h3.1 h3.2.1 ?_⟩) h2)
   rw [Array.setIfInBounds_comm _ _ hji]
   exact h3.2.2
theorem wpAnyT_pure {T:List Nat} {i:Nat} {oi:Oper} {v:Value} (hi:ops[i]?=some oi) (hsel:∀ (j:Nat) (o:Oper) cs b,ops[j]?=some o→o.op≠.select cs b)
  (hQ:∀ c a w,Q (.panic c) (a.put oi.dst v) w→Q (.panic c) a w) (hiT:i∈T) :
  ∀ (fuel:Nat) (listed:Array Bool) (a:Act) (w:World),
   (∀ j oj,ops[j]?=some oj→j≠i→listed.getD j true=false→(∀ e∈oj.after,Region.binds md e=true→e.on≠i)→oi.apart ops oj=true) →
   i∈Region.ready md ops listed→Yields P ops oi v a→S w →
   wpAnyT P md ops Q S T fuel (listed.setIfInBounds i true) (a.put oi.dst v) w→wpAnyT P md ops Q S T (fuel+1) listed a w:=by
 intro fuel
 induction fuel with
 | zero =>
  intro listed a w _ hr hy hS H
  refine ⟨fun h=>(by rw [h] at hr; cases hr),fun j hj=>?_⟩
  by_cases hji:j=i
  ·subst hji; exact wpAnyT_in hiT (hy.wpOp hi ⟨hS,H⟩)
  ·have:=ready_mono hj hji
   rw [H.1] at this
   cases this
 | succ fuel ih =>
  intro listed a w hfree hr hy hS H
  refine ⟨fun h=>(by rw [h] at hr; cases hr),fun j hj=>?_⟩
  by_cases hji:j=i
  ·subst hji; exact wpAnyT_in hiT (hy.wpOp hi ⟨hS,H⟩)
  ·obtain ⟨hjun,oj,hoj,hall⟩:=mem_ready.1 hj
   have hnot:∀ e∈oj.after,Region.binds md e=true→e.on≠i:=fun e he hb heq=>by
    have h1:=hall e he hb
    have h0:=(mem_ready.1 hr).1
    rw [heq] at h1
    rcases Nat.lt_or_ge i listed.size with h'|h'
    ·simp [h'] at h0 h1; rw [h0] at h1; cases h1
    ·simp [Array.getElem?_eq_none h'] at h1
   have h1:=H.2 j (ready_mono hj hji)
   have h2:=wpOp_put hoj (hfree j oj hoj hji hjun hnot) (fun cs b=>hsel i oi cs b hi) (fun cs b=>hsel j oj cs b hoj) hQ hy h1
   have hfree':∀ k ok,ops[k]?=some ok→k≠i→(listed.setIfInBounds j true).getD k true=false →
     (∀ e∈ok.after,Region.binds md e=true→e.on≠i)→oi.apart ops ok=true:=fun k ok hk hki hun hno=>by
    refine hfree k ok hk hki ?_ hno
    by_cases hjk:j=k
    ·subst hjk; exact hjun
    ·rw [getD_set_ne true hjk] at hun; exact hun
   refine wpOp_mono (fun a' w' h3=>?_) h2
   obtain ⟨h3,h4⟩:=h3
   by_cases hjT:T.contains j=true
   ·rw [if_pos hjT] at h4 ⊢
    refine ⟨h4.1,ih (listed.setIfInBounds j true) a' w' hfree' (ready_mono hr (Ne.symm hji)) h3 h4.1 ?_⟩
    rw [Array.setIfInBounds_comm _ _ hji]
    exact h4.2
   ·rw [if_neg hjT] at h4 ⊢
    refine wpAny_first hi hsel hQ fuel (listed.setIfInBounds j true) a' w' hfree' (ready_mono hr (Ne.symm hji)) h3 ?_
    rw [Array.setIfInBounds_comm _ _ hji]
    exact h4
end
end
section
namespace Sx
open Go.RowKit

theorem yr {A B:Prop} (k:B) (h:A:=by exact rfl):A∧B:=⟨h,k⟩
theorem yo {A B:Prop} (k:B) (h:A:=by first|decide|omega):A∧B:=⟨h,k⟩
theorem yt {P Q A B:Prop} (k:A) (h:¬ Q:=by decide):(P→A)∧(Q→B):=⟨fun _=>k,fun q=>absurd q h⟩
theorem yf {P Q A B:Prop} (k:B) (h:¬ P:=by decide):(P→A)∧(Q→B):=⟨fun p=>absurd p h,fun _=>k⟩
theorem ya {x:Bool} {A B:Prop} (e:x=true) (k:A):(x=true→A)∧(x=false→B):=⟨fun _=>k,fun h=>absurd (e.symm.trans h) (by decide)⟩
theorem yb {x:Bool} {A B:Prop} (e:x=false) (k:B):(x=true→A)∧(x=false→B):=⟨fun h=>absurd (e.symm.trans h) (by decide),fun _=>k⟩
/-! Other names for the blocks: block i is called q i before. -/
def nthN:List Nat→Nat→Nat→Prop→Prop
 | [],_,_,_=>False
 | x::_,0,i,k=>match Nat.beq x i with
  | true=>k
  | false=>False
 | _::r,n+1,i,k=>nthN r n i k
def sameN (b b':Nat) (k:Prop):Prop:=match Nat.beq b b' with
 | true=>k
 | false=>False
def eqC (q:List Nat) (x y:SC) (k:Prop):Prop:=match y with
 | .any=>k
 | .int .i64 b=>match x with|.int .i64 a=>a=b∧k|_=>False
 | .w8 b=>match x with|.w8 a=>a=b∧k|_=>False
 | .w16 b=>match x with|.w16 a=>a=b∧k|_=>False
 | .w32 b=>match x with|.w32 a=>a=b∧k|_=>False
 | .w64 b=>match x with|.w64 a=>a=b∧k|_=>False
 | .bool b=>match x with|.bool a=>a=b∧k|_=>False
 | .str b=>match x with|.str a=>a=b∧k|_=>False
 | .p i' b' o'=>match x with|.p i b o=>nthN q i' i (sameN b b' (o=o'∧k))|_=>False
 | .sl i' b' o' n' c'=>match x with|.sl i b o n c=>nthN q i' i (sameN b b' (o=o'∧n=n'∧c=c'∧k))|_=>False
 | .nilIfc=>match x with|.nilIfc=>k|_=>False
 | .nilFn=>match x with|.nilFn=>k|_=>False
 | .nilMap=>match x with|.nilMap=>k|_=>False
 | .int k' b=>x=.int k' b∧k
 | .ptr a=>x=.ptr a∧k
 | .slc a n c=>x=.slc a n c∧k
 | .ifc t v=>x=.ifc t v∧k
 | .fnv f u v=>x=.fnv f u v∧k
 | .clo f' i' b' o'=>match x with|.clo f i b o=>f=f'∧nthN q i' i (sameN b b' (o=o'∧k))|_=>False
 | .cap f' i' b' o'=>match x with|.cap f i b o=>f=f'∧nthN q i' i (sameN b b' (o=o'∧k))|_=>False
 | .sn z' i' b' o' n' c'=>match x with
  | .sn z i b o n c=>nthN q i' i (sameN b b' (z=z'∧o=o'∧n=n'∧c=c'∧k))
  | .sl i b o n c=>nthN q i' i (sameN b b' (z'=false∧o=o'∧n=n'∧c=c'∧k))
  | .slc none n c=>n=0∧c=0∧z'=true∧n'=0∧c'=0∧k
  | .slc (some _) n c=>n=0∧c=0∧z'=false∧n'=0∧c'=0∧k
  | _=>False
 | .mh i'=>match x with|.mh i=>nthN q i' i k|_=>False
 | .ih i'=>match x with|.ih i=>nthN q i' i k|_=>False
 | .cap2 f' i' b' o' j' c' p'=>match x with|.cap2 f i b o j c p=>f=f'∧nthN q i' i (sameN b b' (o=o'∧nthN q j' j (sameN c c' (p=p'∧k))))|_=>False
def eqNil:List Seg→List Seg→Prop→Prop
 | [],[],k=>k
 | _,_,_=>False
def eqSegs (q:List Nat):List Seg→List Seg→Prop→Prop
 | _,[],k=>k
 | .one x::r,.one y::r',k=>eqC q x y (eqSegs q r r' k)
 | .row n f::r,.row m g::r',k=>n=m∧(∀ j,j<m→eqC q (f j) (g j) True)∧eqSegs q r r' k
 | .obj m::r,.obj m'::r',k=>m=m'∧eqNil r r' k
 | .past w ms::r,.past w' ms'::r',k=>(w=w'∧ms=ms')∧eqNil r r' k
 | _,_,_=>False
def eqA (q:List Nat) (x y:SA) (k:Prop):Prop:=match x,y with
 | .c x,.c y=>eqC q x y k
 | .agg l,.agg l'=>l.length=l'.length∧eqSegs q l l' k
 | _,_=>False
def eqL (q:List Nat):List SA→List SA→Prop→Prop
 | [],[],k=>k
 | x::r,y::r',k=>eqA q x y (eqL q r r' k)
 | _,_,_=>False
def eqV (q:List Nat) (x y:SV) (k:Prop):Prop:=match y with
 | .any=>k
 | .a y=>match x with
  | .a x=>eqA q x y k
  | _=>False
 | .tup l'=>match x with
  | .tup l=>eqL q l l' k
  | _=>False
def entT (q:List Nat):List SV→List SV→Prop→Prop
 | [],[],k=>k
 | x::r,y::r',k=>eqV q x y (entT q r r' k)
 | _,_,_=>False
def entH (q:List Nat) (h:List (List Seg)):List Nat→List (List Seg)→Prop→Prop
 | [],[],k=>k
 | i::is,l::r,k=>eqSegs q (getH h i) l (entH q h is r k)
 | _,_,_=>False
def allLt:List Nat→Nat→Bool
 | [],_=>true
 | x::r,n=>match Nat.blt x n with
  | true=>allLt r n
  | false=>false
def notIn:Nat→List Nat→Bool
 | _,[]=>true
 | x,y::r=>match Nat.beq x y with
  | true=>false
  | false=>notIn x r
def nodup:List Nat→Bool
 | []=>true
 | x::r=>match notIn x r with
  | true=>nodup r
  | false=>false
def nodupE (ro:Nat):List Nat→List Nat→List (List Seg)→Bool
 | _,[],_=>true
 | sn,x::r,hs=>match notIn x sn with
  | true=>nodupE ro (x::sn) r hs.tail
  | false=>match Nat.ble ro x,hs.headD [.one .any] with
   | true,[]=>nodupE ro sn r hs.tail
   | _,_=>false
def pref:Nat→Nat→List Nat→Bool
 | 0,_,_=>true
 | n+1,i,x::r=>match Nat.beq i x with
  | true=>pref n (i+1) r
  | false=>false
 | _+1,_,[]=>false
def Ent (C:Cx) (q:List Nat) (s s':St):Prop :=
 (pref C.r0.length 0 q=true∧nodupE C.ro [] q s'.h=true∧allLt q s.h.length=true)∧entT q s.t s'.t (entH q s.h q s'.h True)
section
variable (C : Cx)
def planB (ops:Array Oper):List Nat→Array Bool→Bool
 | [],l=>Region.ready .any ops l == []
 | i::B,l=>Region.ready .any ops l == [i] && planB ops B (l.setIfInBounds i true)
def setAll (l:Array Bool):List Nat→Array Bool
 | []=>l
 | i::r=>setAll (l.setIfInBounds i true) r
def planOk (ops:Array Oper) (AL B:List Nat):List (Nat × Bool)→Array Bool→Bool
 | [],l=>planB ops B l
 | (i,true)::A,l=>!(memB i AL) && (Region.ready .any ops l).contains i && Region.free .any ops l i && planOk ops AL B A (l.setIfInBounds i true)
 | (i,false)::A,l=>Region.ready .any ops (setAll l (AL.filter fun j=>!(Nat.beq j i))) == [i] && (Region.ready .any ops l).contains i && planOk ops AL B A (l.setIfInBounds i true)
def memOf (ops:Array Oper) (A:List (Nat × Bool)):List Nat :=
 (A.filter fun x=>!(x.2 && match ops[x.1]? with
  | some o=>pureOp o.op
  | none=>false)).map (·.1)
def planAll (ops:Array Oper) (AL:List Nat) (A:List (Nat × Bool)) (B:List Nat):Bool :=
 planOk ops AL B A (Array.replicate ops.size false) && Region.noSelect ops && Region.waitsM .any ops (A.map (·.1)) (memOf ops A) && Nat.beq (A.length+B.length) ops.size && AL.all fun j=>memB j (A.map (·.1))
def floB (T:List (Nat × TD)) (u len:Nat) (parts:List (Nat × Operand)):Option (List Seg × Option (Nat × Nat)):=match findT T u with
 | some d=>match d.k with
  | .slice e=>match findT T e with
   | some de=>match len,parts with
    | 0,[]=>match de.zero with
     | [.one _]=>some ([.row 0 (nthC [])],some (0,0))
     | z=>match de.size with
      | 0=>none
      | sz+1=>some ([.row (0*(sz+1)) (fun j=>nthC (flat z) (j % (sz+1)))],some (0,0))
    | 1,[(0,.const (.string x))]=>match de.zero,Nat.ble (1*de.size) 16777216 with
     | [.one _],true=>some ([.row 1 (nthC [.str x.data.toList])],some (1,1))
     | _,_=>none
    | _,_=>none
   | none=>none
  | _=>none
 | none=>none
def flo (T:List (Nat × TD)):Op→Option (List Seg × Option (Nat × Nat))
 | .alloc u=>match findT T u with
  | some d=>match hd1 d.zero with
   | true=>some (d.zero,none)
   | false=>none
  | none=>none
 | .makeSlice u (.const (.int .i64 (.ofNat l))) (.const (.int .i64 (.ofNat c)))=>match findT T u with
  | some d=>match d.k with
   | .slice e=>match findT T e with
    | some de=>match de.zero with
     | [.one z]=>match Nat.ble l c && Nat.ble (c*de.bytes) 140737488355328 && Nat.ble c 9223372036854775807 with
      | true=>some ([.row c (fun _=>z)],some (l,c))
      | false=>none
     | _=>none
    | none=>none
   | _=>none
  | none=>none
 | .buildSlice u len parts=>floB T u len parts.toList
 | _=>none
def floOk (T:List (Nat × TD)) (ops:Array Oper):List Nat→Bool
 | []=>true
 | j::r=>(match ops[j]? with
  | some o=>(match o.dst with
   | some d=>(match o.guard with
    | none=>(flo T o.op).isSome && (List.range ops.size).all fun i=>Nat.beq i j || !(dstOf ops i == some d)
    | some _=>false)
   | none=>false)
  | none=>false) && floOk T ops r
/-! Orders where two operations come alone, in either order. -/
inductive PT
 | nil
 | rd (i:Nat) (t:PT)
 | one (i:Nat) (t:PT)
 | alt (i j:Nat) (t u:PT)
def mkT (i j:Nat):List (Nat × Bool)→PT
 | []=>.nil
 | (x,true)::A=>.rd x (mkT i j A)
 | (x,false)::A=>match Nat.beq x i with
  | true=>.alt i j (mkT i j A) (.one i (dropT (mkT i j A)))
  | false=>.one x (mkT i j A)
where dropT:PT→PT
 | .one _ t=>t
 | t=>t
def ptLen:PT→Nat
 | .nil=>0
 | .rd _ t=>ptLen t+1
 | .one _ t=>ptLen t+1
 | .alt _ _ t _=>ptLen t+1
def pureAt (ops:Array Oper) (i:Nat):Bool:=match ops[i]? with
 | some o=>pureOp o.op
 | none=>false
def planT (ops:Array Oper) (T M B:List Nat):PT→Array Bool→Bool
 | .nil,l=>planB ops B l && T.all fun i=>l.getD i true
 | .rd i t,l=>(Region.ready .any ops l).contains i && Region.free .any ops l i && memB i T && (memB i M || pureAt ops i) && planT ops T M B t (l.setIfInBounds i true)
 | .one i t,l=>Region.ready .any ops l == [i] && memB i T && planT ops T M B t (l.setIfInBounds i true)
 | .alt i j t u,l=>Region.ready .any ops l == [i,j] && memB i T && memB j T && Nat.beq (ptLen t) (ptLen u) && planT ops T M B t (l.setIfInBounds i true) && planT ops T M B u (l.setIfInBounds j true)
def ptIds:PT→List Nat
 | .nil=>[]
 | .rd i t=>i::ptIds t
 | .one i t=>i::ptIds t
 | .alt i _ t _=>i::ptIds t
def covT (T:List Nat) (t:PT) (l:Array Bool):Bool:=T.all fun k=>l.getD k true || memB k (ptIds t)
def planTA (ops:Array Oper) (AL T M B:List Nat):PT→Array Bool→Bool
 | .nil,l=>planB ops B l && covT T .nil l
 | .rd i t,l=>(!(memB i AL) && (Region.ready .any ops l).contains i && Region.free .any ops l i && memB i T && (memB i M || pureAt ops i)) && covT T (.rd i t) l && planTA ops AL T M B t (l.setIfInBounds i true)
 | .one i t,l=>(Region.ready .any ops (setAll l (AL.filter fun j=>!(Nat.beq j i))) == [i] && (Region.ready .any ops l).contains i && memB i T) && covT T (.one i t) l && planTA ops AL T M B t (l.setIfInBounds i true)
 | .alt i j t u,l=>(!(memB j AL) && Region.ready .any ops (setAll l (AL.filter fun k=>!(Nat.beq k i))) == [i,j] && (Region.ready .any ops l).contains i && (Region.ready .any ops l).contains j && memB i T && memB j T && Nat.beq (ptLen t) (ptLen u)) && covT T (.alt i j t u) l && planTA ops AL T M B t (l.setIfInBounds i true) && planTA ops AL T M B u (l.setIfInBounds j true)
def planAllT (ops:Array Oper) (A:List (Nat × Bool)) (B:List Nat) (pt:PT):Bool :=
 planT ops (A.map (·.1)) (memOf ops A) B pt (Array.replicate ops.size false) && Region.noSelect ops && Region.waitsM .any ops (A.map (·.1)) (memOf ops A) && Nat.beq (ptLen pt+B.length) ops.size
def parsePT:Nat→List Nat→(PT→List Nat→PT)→PT
 | 0,_,_=>.nil
 | _+1,[],k=>k .nil []
 | n+1,x::r,k=>match Nat.beq x 0 with
  | true=>k .nil r
  | false=>match Nat.beq x 3 with
   | true=>match r with
    | i::j::r=>parsePT n r fun t r=>parsePT n r fun u r=>k (.alt i j t u) r
    | _=>.nil
   | false=>match Nat.blt x 2000 with
    | true=>parsePT n r fun t r=>k (.rd (Nat.sub x 1000) t) r
    | false=>parsePT n r fun t r=>k (.one (Nat.sub x 2000) t) r
def swp (A:List (Nat × Bool)):List Nat→Option PT
 | []=>none
 | a::r=>match Nat.beq a 1000 with
  | true=>match r with
   | [i,j]=>some (mkT i j A)
   | _=>none
  | false=>match Nat.beq a 1001 with
   | true=>some (parsePT r.length r fun t _=>t)
   | false=>none
def swpA:List Nat→Option (List Nat × PT)
 | a::m::r=>match Nat.beq a 1002 with
  | true=>some (r.take m,parsePT r.length (r.drop m) fun t _=>t)
  | false=>none
 | _=>none
def planAllTA (T:List (Nat × TD)) (ops:Array Oper) (L:List Nat) (A:List (Nat × Bool)) (B:List Nat) (pt:PT):Bool :=
 planTA ops L (A.map (·.1)) (memOf ops A) B pt (Array.replicate ops.size false) && Region.noSelect ops && Region.waitsM .any ops (A.map (·.1)) (memOf ops A) && Nat.beq (ptLen pt+B.length) ops.size && floOk T ops L && L.all fun j=>memB j (A.map (·.1))
def planAny (T:List (Nat × TD)) (ops:Array Oper) (AL:List Nat) (A:List (Nat × Bool)) (B:List Nat):Bool:=match swpA AL with
 | some (L,pt)=>planAllTA T ops L A B pt
 | none=>match swp A AL with
  | none=>planAll ops AL A B && floOk T ops AL
  | some pt=>planAllT ops A B pt
def fgt (ops:Array Oper):List Nat→St→(St→Prop)→Prop
 | [],s,k=>k s
 | j::r,⟨t,h⟩,k=>match dstOf ops j with
  | some d=>match Nat.blt d t.length with
   | true=>setT t d .any fun t=>fgt ops r ⟨t,h⟩ k
   | false=>False
  | none=>False
def vcB (ops:Array Oper):List Nat→St→(St→Prop)→Prop
 | [],s,K=>K s
 | i::rest,s,K=>match ops[i]? with
  | some o=>one C .free ops o s fun s'=>vcB ops rest s' K
  | none=>False
def vcA (q:Keep) (ops:Array Oper):List (Nat × Bool)→St→(St→Prop)→Prop
 | [],s,K=>K s
 | (i,true)::rest,s,K=>match ops[i]? with
  | some o=>match seenOk q C.ro (seen s.t o.op) with
   | true=>oneR C ops o s fun s'=>vcA q ops rest s' K
   | false=>False
  | none=>False
 | (i,false)::rest,s,K=>match ops[i]? with
  | some o=>one C q ops o s fun s'=>vcA q ops rest s' K
  | none=>False
def vcT (q:Keep) (ops:Array Oper) (B:List Nat):PT→St→(St→Prop)→Prop
 | .nil,s,K=>vcB C ops B s K
 | .rd i t,s,K=>match ops[i]? with
  | some o=>match seenOk q C.ro (seen s.t o.op) with
   | true=>oneR C ops o s fun s'=>vcT q ops B t s' K
   | false=>False
  | none=>False
 | .one i t,s,K=>match ops[i]? with
  | some o=>one C q ops o s fun s'=>vcT q ops B t s' K
  | none=>False
 | .alt i j t u,s,K=>(match ops[i]? with
  | some o=>one C q ops o s fun s'=>vcT q ops B t s' K
  | none=>False)∧(match ops[j]? with
  | some o=>one C q ops o s fun s'=>vcT q ops B u s' K
  | none=>False)
def vcAny (q:Keep) (ops:Array Oper) (AL:List Nat) (A:List (Nat × Bool)) (B:List Nat) (s:St) (K:St→Prop):Prop:=match swpA AL with
 | some (L,pt)=>fgt ops L s fun s=>vcT C q ops B pt s K
 | none=>match swp A AL with
  | none=>fgt ops AL s fun s=>vcA C q ops A s fun s'=>vcB C ops B s' K
  | some pt=>vcT C q ops B pt s K
def Kseq (f:St→Prop) (Q:Exit→St→Prop):Exit→St→Prop
 | .normal,s=>f s
 | e,s=>Q e s
def Kblk (id:Nat) (Q:Exit→St→Prop):Exit→St→Prop
 | .exit i,s=>match Nat.beq i id with
  | true=>Q .normal s
  | false=>Q (.exit i) s
 | e,s=>Q e s
def Kscp (Q:Exit→St→Prop):Exit→St→Prop
 | .goto _,_=>False
 | e,s=>Q e s
def EntW (C:Cx) {X:Type} (s:St) (inv:X→St) (p:X→Prop):Prop :=
 ∀ (r:Rho) (a:Act) (w:World),Ok C s r a w→∃ (x:X) (r':Rho),Ok C (inv x) r' a w∧p x
def LoopW (C:Cx) (body:St→(Exit→St→Prop)→Prop) (s:St) (Q:Exit→St→Prop):Prop :=
 ∃ (X:Type) (inv:X→St) (p:X→Prop) (μ:X→Nat),EntW C s inv p∧∀ x,p x→body (inv x) (Kseq (fun s'=>EntW C s' inv fun x'=>p x'∧μ x'<μ x) Q)
def rounds (body:St→(Exit→St→Prop)→Prop):Nat→St→(Exit→St→Prop)→Prop
 | 0,s,Q=>LoopW C body s Q
 | n+1,s,Q=>body s (Kseq (fun s'=>rounds body n s' Q) Q)
def LoopVC (body:St→(Exit→St→Prop)→Prop) (s:St) (Q:Exit→St→Prop):Prop :=
 (∃ (X:Type) (inv:X→St) (p:X→Prop) (μ:X→Nat),(∃ x q,Ent C q s (inv x)∧p x)∧∀ x,p x→body (inv x) (Kseq (fun s'=>∃ x' q,Ent C q s' (inv x')∧p x'∧μ x'<μ x) Q))∨∃ n,rounds C body n s Q
def keepOf:Option (List Nat)→Keep
 | none=>.all
 | some l=>.only l
def vc:Code→St→(Exit→St→Prop)→Prop
 | .skip,s,Q=>Q .normal s
 | .region _ ops false,s,Q=>vcOps C ops ops.toList s (Q .normal)
 | .region _ ops true,s,Q=>∃ (l:Option (List Nat)) (AL:List Nat) (A:List (Nat × Bool)) (B:List Nat),planAny C.T ops AL A B=true∧vcAny C (keepOf l) ops AL A B s (Q .normal)
 | .seq a b,s,Q=>vc a s (Kseq (fun s'=>vc b s' Q) Q)
 | .cond c a b,s,Q=>asC (ev s.t c) fun
  | .bool t=>(t=true→vc a s Q)∧(t=false→vc b s Q)
  | _=>False
 | .block id b,s,Q=>vc b s (Kblk id Q)
 | .loop b,s,Q=>LoopVC C (vc b) s Q
 | .exit id,s,Q=>Q (.exit id) s
 | .ret,s,Q=>Q .ret s
 | .label _,s,Q=>Q .normal s
 | .scope c,s,Q=>vc c s (Kscp Q)
 | _,_,_=>False
def res1 (s:St) (x:ResultVar) (k:SA→Prop):Prop:=match x with
 | .tmp d=>match getT s.t d with
  | .a x=>k x
  | _=>False
 | .cell d t=>td C t fun dd=>match getT s.t d with
  | .a (.c (.p i b o))=>loadS (shape dd.zero) (getH s.h i) b o fun l=>match dd.isAgg with
   | true=>k (.agg l)
   | false=>match l with
    | [.one x]=>k (.c x)
    | _=>False
  | _=>False
def resL (s:St):List ResultVar→(List SA→Prop)→Prop
 | [],k=>k []
 | x::r,k=>res1 C s x fun v=>resL s r fun l=>k (v::l)
def res (s:St) (l:List ResultVar) (k:SV→Prop):Prop:=match l with
 | [x]=>res1 C s x fun v=>k (.a v)
 | l=>resL C s l fun l=>k (.tup l)
def Kend (l:List ResultVar) (K:SV→List (List Seg)→Prop):Exit→St→Prop
 | .normal,s=>res C s l fun v=>K v s.h
 | .ret,s=>res C s l fun v=>K v s.h
 | _,_=>False
def Body (fn:Func) (c:Code) (s:St) (K:SV→List (List Seg)→Prop):Prop :=
 vc C c s (Kend C fn.results.toList K)
end
end Sx
end
section
namespace Sx
open Go.RowKit

theorem elt_spec {n:Int} {sz o:Nat} {K:Nat→Prop} (h:elt n sz o K):K (n.toNat*sz+o):=by
 unfold elt at h
 split at h
 ·simpa using h
 ·exact h
theorem flat_one (x:SC) (r:List Seg) (j:Nat):(flat (.one x::r))[j+1]?=(flat r)[j]?:=rfl
theorem flat_row_lt (n:Nat) (f:Nat→SC) (r:List Seg) {j:Nat} (h:j<n):(flat (.row n f::r))[j]?=some (f j):=by
 simp [flat,List.getElem?_append,h]
theorem flat_row_ge (n:Nat) (f:Nat→SC) (r:List Seg) {j:Nat} (h:n≤j):(flat (.row n f::r))[j]?=(flat r)[j-n]?:=by
 have:¬ j<n:=by omega
 simp [flat,List.getElem?_append,this]
theorem flat_len_row (n:Nat) (f:Nat→SC) (r:List Seg):(flat (.row n f::r)).length=n+(flat r).length:=by simp [flat]
theorem flat_len_one (x:SC) (r:List Seg):(flat (.one x::r)).length=1+(flat r).length:=by simp [flat]; omega
theorem segs?_spec:∀ {l:List Seg} {b:Nat} {r:List Seg},segs? l b=some r→∀ j,(flat r)[j]?=(flat l)[b+j]?
 | l,0,r,h,j=>by
  have:l=r:=by cases l <;> simpa [segs?] using h
  subst this
  simp
 | .one x::l,b+1,r,h,j=>by
  rw [show b+1+j=(b+j)+1 by omega,flat_one]
  exact segs?_spec (l:=l) (by simpa [segs?] using h) j
 | .row n f::l,b+1,r,h,j=>by
  simp only [segs?] at h
  split at h
  ·rename_i hb
   have hn:=Nat.le_of_ble_eq_true hb
   rw [flat_row_ge _ _ _ (by omega),segs?_spec h j]
   congr 1
   omega
  ·cases h
 | .obj _::_,_+1,_,h,_=>by cases h
 | .past _ _::_,_+1,_,h,_=>by cases h
 | [],_+1,_,h,_=>by cases h
def tot:List (Option Nat)→Nat
 | []=>0
 | none::r=>1+tot r
 | some n::r=>n+tot r
theorem tot_shape:∀ l:List Seg,tot (shape l)=(flat l).length
 | []=>rfl
 | .one x::r=>by rw [flat_len_one,shape,tot,tot_shape r]
 | .row n f::r=>by rw [flat_len_row,shape,tot,tot_shape r]
 | .obj _::r=>tot_shape r
 | .past _ _::r=>tot_shape r
theorem takeA_spec:∀ {sh:List (Option Nat)} {l:List Seg} {k:List Seg→Prop},takeA sh l k→∃ l',k l'∧(flat l').length=tot sh∧∀ (j:Nat) (x:SC),(flat l')[j]?=some x→(flat l)[j]?=some x
 | [],_,_,h=>⟨[],h,rfl,fun j x e=>by simp [flat] at e⟩
 | none::sh,.one y::r,k,h=>by
  obtain ⟨l',h1,h2,h3⟩:=takeA_spec (sh:=sh) (l:=r) h
  refine ⟨_,h1,by rw [flat_len_one,h2,tot],fun j x e=>?_⟩
  cases j with
  | zero=>exact e
  | succ j=>exact h3 j x e
 | some m::sh,.row n f::r,k,h=>by
  simp only [takeA] at h
  split at h
  ·rename_i hb
   have hn:=Nat.eq_of_beq_eq_true hb
   subst hn
   obtain ⟨l',h1,h2,h3⟩:=takeA_spec (sh:=sh) (l:=r) h
   refine ⟨_,h1,by rw [flat_len_row,h2,tot],fun j x e=>?_⟩
   by_cases hj:j<m
   ·rw [flat_row_lt _ _ _ hj] at e ⊢; exact e
   ·rw [flat_row_ge _ _ _ (by omega)] at e ⊢; exact h3 _ x e
  ·exact h.elim
 | none::_,[],_,h=>h.elim
 | none::_,.row ..::_,_,h=>h.elim
 | none::_,.obj _::_,_,h=>h.elim
 | none::_,.past _ _::_,_,h=>h.elim
 | some _::_,[],_,h=>h.elim
 | some _::_,.one _::_,_,h=>h.elim
 | some _::_,.obj _::_,_,h=>h.elim
 | some _::_,.past _ _::_,_,h=>h.elim
theorem takeB_spec {n:Nat} {f:Nat→SC}:∀ {sh:List (Option Nat)} {o:Nat} {k:List Seg→Prop},takeB sh n f o k→∃ l',k l'∧(flat l').length=tot sh∧(o+tot sh≤n∨sh=[])∧∀ (j:Nat) (x:SC),(flat l')[j]?=some x→x=f (o+j)
 | [],_,_,h=>⟨[],h,rfl,.inr rfl,fun j x e=>by simp [flat] at e⟩
 | none::sh,o,k,h=>by
  obtain ⟨h0,h⟩:=h
  obtain ⟨l',h1,h2,h3,h4⟩:=takeB_spec (sh:=sh) (o:=o+1) h
  rw [frcSC_eq] at h1
  refine ⟨_,h1,by rw [flat_len_one,h2,tot],.inl ?_,fun j x e=>?_⟩
  ·simp only [tot]; rcases h3 with h3|rfl
   ·omega
   ·simp [tot]; omega
  ·cases j with
   | zero=>simp [flat] at e; rw [← e]; rfl
   | succ j=>rw [h4 j x e]; congr 1; omega
 | some m::sh,o,k,h=>by
  obtain ⟨h0,h⟩:=h
  obtain ⟨l',h1,h2,h3,h4⟩:=takeB_spec (sh:=sh) (o:=o+m) h
  refine ⟨_,h1,by rw [flat_len_row,h2,tot],.inl ?_,fun j x e=>?_⟩
  ·simp only [tot]; rcases h3 with h3|rfl
   ·omega
   ·simp [tot]; omega
  ·by_cases hj:j<m
   ·rw [flat_row_lt _ _ _ hj] at e
    injection e with e
    rw [← e]; congr 1; omega
   ·rw [flat_row_ge _ _ _ (by omega)] at e
    rw [h4 _ x e]; congr 1; omega
theorem loadS_spec {sh:List (Option Nat)} {l:List Seg} {b o:Nat} {k:List Seg→Prop} (h:loadS sh l b o k) :
  ∃ l',k l'∧(flat l').length=tot sh∧∀ (j:Nat) (x:SC),(flat l')[j]?=some x→(flat l)[b+o+j]?=some x:=by
 unfold loadS at h
 split at h
 ·rename_i x r hs
  split at h
  ·obtain ⟨l',h1,h2,h3⟩:=takeA_spec h
   exact ⟨l',h1,h2,fun j y e=>by have:=h3 j y e; rwa [segs?_spec hs] at this⟩
  ·exact h.elim
 ·rename_i n f r hs
  have hrow:∀ j,j<n→(flat l)[b+j]?=some (f j):=fun j hj=>by rw [← segs?_spec hs,flat_row_lt _ _ _ hj]
  split at h
  ·obtain ⟨h0,h⟩:=h
   rw [frcSC_eq] at h
   refine ⟨_,h,rfl,fun j x e=>?_⟩
   cases j with
   | zero=>simp [flat] at e; rw [← e,Nat.add_zero,hrow _ h0]
   | succ j=>simp [flat] at e
  ·obtain ⟨h0,h⟩:=h
   refine ⟨_,h,by simp [flat,tot],fun j x e=>?_⟩
   rename_i m
   by_cases hj:j<m
   ·rw [flat_row_lt _ _ _ hj] at e
    injection e with e
    rw [← e,show b+o+j=b+(j+o) by omega,hrow _ (by omega)]
   ·rw [flat_row_ge _ _ _ (by omega)] at e; simp [flat] at e
  ·split at h
   ·obtain ⟨l',h1,h2,h3⟩:=takeA_spec h
    exact ⟨l',h1,h2,fun j y e=>by have:=h3 j y e; rwa [segs?_spec hs] at this⟩
   ·exact h.elim
  ·obtain ⟨l',h1,h2,h3,h4⟩:=takeB_spec h
   refine ⟨l',h1,h2,fun j x e=>?_⟩
   have hj:j<(flat l').length:=by
    rcases Nat.lt_or_ge j (flat l').length with h|h
    ·exact h
    ·rw [List.getElem?_eq_none h] at e; cases e
   rcases h3 with h3|rfl
   ·rw [h4 j x e,show b+o+j=b+(o+j) by omega,hrow _ (by omega)]
   ·rw [h2] at hj; exact absurd hj (by simp [tot])
 ·exact h.elim
theorem nthC_eq:∀ (l:List SC) (j:Nat),nthC l j=(l[j]?).getD .any
 | [],_=>rfl
 | _::_,0=>rfl
 | _::r,j+1=>nthC_eq r j
def Put (new l l':List Seg) (at_:Nat):Prop :=
 at_+(flat new).length≤(flat l).length∧(flat l').length=(flat l).length∧∀ j,(flat l')[j]?=if at_≤j∧j<at_+(flat new).length then (flat new)[j-at_]? else (flat l)[j]?
theorem Put.one {new r r':List Seg} {at_:Nat} (h:Put new r r' at_) (y:SC):Put new (.one y::r) (.one y::r') (at_+1):=by
 obtain ⟨h1,h2,h3⟩:=h
 refine ⟨by rw [flat_len_one]; omega,by rw [flat_len_one,flat_len_one,h2],fun j=>?_⟩
 cases j with
 | zero=>rw [if_neg (by omega)]; rfl
 | succ j =>
  rw [flat_one,flat_one,h3]
  by_cases hc:at_≤j∧j<at_+(flat new).length
  ·rw [if_pos hc,if_pos (by omega)]; congr 1; omega
  ·rw [if_neg hc,if_neg (by omega)]
theorem Put.row {new r r':List Seg} {at_ n:Nat} (h:Put new r r' at_) (f:Nat→SC):Put new (.row n f::r) (.row n f::r') (at_+n):=by
 obtain ⟨h1,h2,h3⟩:=h
 refine ⟨by rw [flat_len_row]; omega,by rw [flat_len_row,flat_len_row,h2],fun j=>?_⟩
 by_cases hj:j<n
 ·rw [flat_row_lt _ _ _ hj,flat_row_lt _ _ _ hj,if_neg (by omega)]
 ·rw [flat_row_ge _ _ _ (by omega),flat_row_ge _ _ _ (by omega),h3]
  by_cases hc:at_≤j-n∧j-n<at_+(flat new).length
  ·rw [if_pos hc,if_pos (by omega)]; congr 1; omega
  ·rw [if_neg hc,if_neg (by omega)]
theorem putA_spec:∀ {new l:List Seg} {k:List Seg→Prop},putA new l k→∃ l',k l'∧Put new l l' 0∧(hd1 l=true→hd1 l'=true)
 | [],l,k,h=>⟨l,h,⟨by simp [flat],rfl,fun j=>by simp [flat]⟩,id⟩
 | .one x::new,.one y::r,k,h=>by
  obtain ⟨l',h1,⟨h2,h3,h4⟩,_⟩:=putA_spec (new:=new) (l:=r) h
  refine ⟨_,h1,⟨by rw [flat_len_one,flat_len_one]; omega,by rw [flat_len_one,flat_len_one,h3],fun j=>?_⟩,fun _=>rfl⟩
  cases j with
  | zero=>rw [if_pos (by rw [flat_len_one]; omega)]; rfl
  | succ j =>
   rw [flat_one,h4]
   by_cases hc:0≤j∧j<0+(flat new).length
   ·rw [if_pos hc,if_pos (by rw [flat_len_one]; omega)]; rfl
   ·rw [if_neg hc,if_neg (by rw [flat_len_one]; omega)]; rfl
 | .row m g::new,.row n f::r,k,h=>by
  simp only [putA] at h
  split at h
  ·rename_i hb
   have hn:=Nat.eq_of_beq_eq_true hb
   subst hn
   obtain ⟨l',h1,⟨h2,h3,h4⟩,_⟩:=putA_spec (new:=new) (l:=r) h
   refine ⟨_,h1,⟨by rw [flat_len_row,flat_len_row]; omega,by rw [flat_len_row,flat_len_row,h3],fun j=>?_⟩,fun _=>rfl⟩
   by_cases hj:j<m
   ·rw [flat_row_lt _ _ _ hj,if_pos (by rw [flat_len_row]; omega),Nat.sub_zero,flat_row_lt _ _ _ hj]
   ·rw [flat_row_ge _ _ _ (by omega),h4]
    by_cases hc:0≤j-m∧j-m<0+(flat new).length
    ·rw [if_pos hc,if_pos (by rw [flat_len_row]; omega),Nat.sub_zero,flat_row_ge _ _ _ (by omega)]; rfl
    ·rw [if_neg hc,if_neg (by rw [flat_len_row]; omega),flat_row_ge _ _ _ (by omega)]
  ·exact h.elim
 | .one _::_,[],_,h=>h.elim
 | .one _::_,.row ..::_,_,h=>h.elim
 | .one _::_,.obj _::_,_,h=>h.elim
 | .one _::_,.past _ _::_,_,h=>h.elim
 | .row ..::_,[],_,h=>h.elim
 | .row ..::_,.one _::_,_,h=>h.elim
 | .row ..::_,.obj _::_,_,h=>h.elim
 | .row ..::_,.past _ _::_,_,h=>h.elim
 | .obj _::_,[],_,h=>h.elim
 | .obj _::_,_::_,_,h=>h.elim
 | .past _ _::_,[],_,h=>h.elim
 | .past _ _::_,_::_,_,h=>h.elim
theorem Put.in_row {new r:List Seg} {n o:Nat} {f f':Nat→SC} (ho:o+(flat new).length≤n) (h1:∀ j,o≤j→j<o+(flat new).length→(flat new)[j-o]?=some (f' j)) (h2:∀ j,j<n→(j<o∨o+(flat new).length≤j)→f' j=f j) :
  Put new (.row n f::r) (.row n f'::r) o:=by
 refine ⟨by rw [flat_len_row]; omega,by rw [flat_len_row,flat_len_row],fun j=>?_⟩
 by_cases hj:j<n
 ·rw [flat_row_lt _ _ _ hj]
  by_cases hc:o≤j∧j<o+(flat new).length
  ·rw [if_pos hc,h1 j hc.1 hc.2]
  ·rw [if_neg hc,flat_row_lt _ _ _ hj,h2 j hj (by omega)]
 ·rw [flat_row_ge _ _ _ (by omega),if_neg (by omega),flat_row_ge _ _ _ (by omega)]
theorem putR_spec {new r:List Seg} {n o:Nat} {f:Nat→SC} {k:List Seg→Prop} (h:putR new n f o r k):∃ l',k l'∧Put new (.row n f::r) l' o∧hd1 l'=true:=by
 unfold putR at h
 split at h
 ·rename_i x
  refine ⟨_,h.2,And.intro (Put.in_row (by simp [flat]; omega) (fun j a b=>?_) (fun j hj hc=>?_)) rfl⟩
  ·simp [flat] at b
   have:j=o:=by omega
   subst this
   simp [flat,upd]
  ·simp [flat] at hc
   simp [upd]; omega
 ·rename_i m g
  split at h
  ·rename_i hb
   have hn:=Nat.eq_of_beq_eq_true hb
   subst hn
   obtain ⟨rfl,h⟩:=h
   refine ⟨_,h,And.intro (Put.in_row (by simp [flat]) (fun j a b=>?_) (fun j hj hc=>?_)) rfl⟩
   ·simp [flat] at b
    simp [flat,b]
   ·simp [flat] at hc; omega
  ·refine ⟨_,h.2,And.intro (Put.in_row (by simp [flat]; omega) (fun j a b=>?_) (fun j hj hc=>?_)) rfl⟩
   ·simp [flat] at b
    have:j-o<m:=by omega
    simp [flat,updN,this,a,b]
   ·simp [flat] at hc
    have:¬ (o≤j∧j<o+m):=by omega
    simp [updN,this]
 ·split at h
  ·obtain ⟨l',h1,h2,h3⟩:=putA_spec h
   exact ⟨l',h1,h2,h3 rfl⟩
  ·exact h.elim
 ·refine ⟨_,h.2,And.intro (Put.in_row h.1 (fun j a b=>?_) (fun j hj hc=>?_)) rfl⟩
  ·have:j-o<(flat new).length:=by omega
   simp [updN,a,b,nthC_eq,this]
  ·have:¬ (o≤j∧j<o+(flat new).length):=by omega
   simp [updN,this]
theorem putS_spec {new:List Seg}:∀ {l:List Seg} {b o:Nat} {k:List Seg→Prop},putS new l b o k→∃ l',k l'∧Put new l l' (b+o)∧hd1 l'=true
 | .one y::r,0,o,k,h=>by
  simp only [putS] at h
  split at h
  ·obtain ⟨l',h1,h2,h3⟩:=putA_spec h
   exact ⟨l',h1,h2,h3 rfl⟩
  ·exact h.elim
 | .row n f::r,0,o,k,h=>by
  have:=putR_spec (new:=new) (r:=r) (n:=n) (f:=f) (o:=o) (k:=k) h
  simpa using this
 | .one y::r,b+1,o,k,h=>by
  obtain ⟨l',h1,h2,_⟩:=putS_spec (l:=r) (b:=b) (o:=o) h
  exact ⟨_,h1,by have:=h2.one y; rwa [show b+o+1=b+1+o by omega] at this,rfl⟩
 | .row n f::r,b+1,o,k,h=>by
  simp only [putS] at h
  split at h
  ·rename_i hb
   have hn:=Nat.le_of_ble_eq_true hb
   obtain ⟨l',h1,h2,_⟩:=putS_spec (l:=r) (b:=b+1-n) (o:=o) h
   exact ⟨_,h1,by have:=h2.row (n:=n) f; rwa [show b+1-n+o+n=b+1+o by omega] at this,rfl⟩
  ·exact h.elim
 | .obj _::_,0,_,_,h=>h.elim
 | .obj _::_,_+1,_,_,h=>h.elim
 | .past _ _::_,0,_,_,h=>h.elim
 | .past _ _::_,_+1,_,_,h=>h.elim
 | [],_,_,_,h=>h.elim
end Sx
end
section
namespace Sx
open Go.RowKit

theorem wrap_i64 {n:Int} (h:-9223372036854775808≤n∧n≤9223372036854775807):IntKind.i64.wrap n=n:=by
 unfold IntKind.wrap IntKind.bits IntKind.signed
 simp only [Bool.true_and,decide_eq_true_eq]
 have h2:((2:Int) ^ 64)=18446744073709551616:=by decide
 have h3:((2:Int) ^ (64-1))=9223372036854775808:=by decide
 rw [h2,h3]
 split <;> omega
theorem wrap_u {k:IntKind} (hk:k.signed=false) (n:Int):k.wrap n=n % ((2 ^ k.bits:Nat):Int):=by
 unfold IntKind.wrap
 simp [hk]
theorem wrap_nat {k:IntKind} (hk:k.signed=false) (n:Nat):k.wrap (n:Int)=((n % 2 ^ k.bits:Nat):Int):=by
 rw [wrap_u hk]; rfl
theorem wrap_w {k:IntKind} (hk:k.signed=false) (x:BitVec k.bits):k.wrap (x.toNat:Int)=(x.toNat:Int):=by
 rw [wrap_nat hk,Nat.mod_eq_of_lt x.isLt]
theorem ofInt_w {n:Nat} (x:BitVec n):BitVec.ofInt n (x.toNat:Int)=x:=by
 rw [BitVec.ofInt_natCast]; simp
section
variable {k : IntKind}
theorem wrap_i32 {n:Int} (h:-2147483648≤n∧n≤2147483647):IntKind.i32.wrap n=n:=by
 unfold IntKind.wrap IntKind.bits IntKind.signed
 simp only [Bool.true_and,decide_eq_true_eq]
 have h2:((2:Int) ^ 32)=4294967296:=by decide
 have h3:((2:Int) ^ (32-1))=2147483648:=by decide
 rw [h2,h3]
 split <;> omega
theorem u_add (hk:k.signed=false) (x y:BitVec k.bits):k.wrap ((x.toNat:Int)+y.toNat)=((x+y).toNat:Int):=by
 rw [← Int.natCast_add,wrap_nat hk,BitVec.toNat_add]
theorem u_mul (hk:k.signed=false) (x y:BitVec k.bits):k.wrap ((x.toNat:Int)*y.toNat)=((x*y).toNat:Int):=by
 rw [← Int.natCast_mul,wrap_nat hk,BitVec.toNat_mul]
theorem u_sub (hk:k.signed=false) (x y:BitVec k.bits):k.wrap ((x.toNat:Int)-y.toNat)=((x-y).toNat:Int):=by
 have hx:=x.isLt
 have hy:=y.isLt
 rw [wrap_u hk,BitVec.toNat_sub]
 generalize 2 ^ k.bits=n at *
 have e:((x.toNat:Int)-y.toNat) % (n:Int)=((n-y.toNat+x.toNat:Nat):Int) % (n:Int):=by
  rw [show ((n-y.toNat+x.toNat:Nat):Int)=(x.toNat:Int)-y.toNat+n by omega,Int.add_emod_right]
 rw [e]; rfl
theorem u_div (hk:k.signed=false) (x y:BitVec k.bits):k.wrap ((x.toNat:Int).tdiv y.toNat)=((x / y).toNat:Int):=by
 rw [Int.tdiv_eq_ediv_of_nonneg (Int.natCast_nonneg _),← Int.natCast_ediv,wrap_nat hk,Nat.mod_eq_of_lt (Nat.lt_of_le_of_lt (Nat.div_le_self _ _) x.isLt)]; simp
theorem u_rem (x y:BitVec k.bits):((x.toNat:Int).tmod y.toNat)=((x % y).toNat:Int):=by
 rw [Int.tmod_eq_emod_of_nonneg (Int.natCast_nonneg _),← Int.natCast_emod]; simp
theorem u_eq (x y:BitVec k.bits):((x.toNat:Int) == y.toNat)=decide (x=y):=by
 rw [Bool.eq_iff_iff]; simp only [beq_iff_eq,decide_eq_true_eq]
 exact ⟨fun h=>BitVec.eq_of_toNat_eq (by omega),fun h=>by rw [h]⟩
theorem u_ne (x y:BitVec k.bits):((x.toNat:Int) != y.toNat)=decide (x≠y):=by
 rw [Bool.eq_iff_iff]; simp only [bne_iff_ne,decide_eq_true_eq]
 exact ⟨fun h e=>h (by rw [e]),fun h e=>h (BitVec.eq_of_toNat_eq (by omega))⟩
theorem u_lt (x y:BitVec k.bits):decide ((x.toNat:Int)<y.toNat)=decide (x<y):=by
 rw [Bool.eq_iff_iff]; simp [BitVec.lt_def]
theorem u_le (x y:BitVec k.bits):decide ((x.toNat:Int)≤y.toNat)=decide (x≤y):=by
 rw [Bool.eq_iff_iff]; simp [BitVec.le_def]
theorem u_shl (hk:k.signed=false) (x:BitVec k.bits) (n:Nat):k.wrap ((x.toNat:Int)*2 ^ (min n k.bits))=((x <<< n).toNat:Int):=by
 have e:((x.toNat:Int)*2 ^ (min n k.bits))=((x.toNat*2 ^ (min n k.bits):Nat):Int):=by simp
 rw [e,wrap_nat hk,BitVec.toNat_shiftLeft,Nat.shiftLeft_eq]
 rcases Nat.le_total n k.bits with h|h
 ·rw [Nat.min_eq_left h]
 ·rw [Nat.min_eq_right h]
  have h1:x.toNat*2 ^ n=2 ^ k.bits*(x.toNat*2 ^ (n-k.bits)):=by
   rw [Nat.mul_left_comm,← Nat.pow_add]; congr 2; omega
  rw [h1,Nat.mul_mod_right,Nat.mul_mod_left]
theorem u_shr (x:BitVec k.bits) (n:Nat):(x.toNat:Int).fdiv (2 ^ (min n k.bits))=((x >>> n).toNat:Int):=by
 have e:((2:Int) ^ (min n k.bits))=((2 ^ (min n k.bits):Nat):Int):=by simp
 rw [e,Int.fdiv_eq_ediv_of_nonneg _ (Int.natCast_nonneg _),← Int.natCast_ediv,BitVec.toNat_ushiftRight,Nat.shiftRight_eq_div_pow]
 rcases Nat.le_total n k.bits with h|h
 ·rw [Nat.min_eq_left h]
 ·rw [Nat.min_eq_right h,Nat.div_eq_of_lt x.isLt,Nat.div_eq_of_lt (Nat.lt_of_lt_of_le x.isLt (Nat.pow_le_pow_right (by omega) h))]
end

section
variable {P : Program}
theorem wbin_spec {k:IntKind} (mk:BitVec k.bits→SC) (hmk:∀ r x,(mk x).Is r (.int k (x.toNat:Int))) (hk:k.signed=false) {op:BinOp} {x y:BitVec k.bits} {K:SC→Prop} (t:TypeId) (h:wbin mk op x y K) :
  ∃ z q,K z∧(∀ r,z.Is r q)∧∀ w:World,(binOp op t (.int k (x.toNat:Int)) (.int k (y.toNat:Int))).run P w=.ok q w:=by
 cases op <;> simp only [wbin] at h
 case add=>exact ⟨_,_,h,fun r=>hmk r _,fun w=>by simp only [binOp,Op.intArith,ne_eq,not_true_eq_false,if_false]; rw [u_add hk]; rfl⟩
 case sub=>exact ⟨_,_,h,fun r=>hmk r _,fun w=>by simp only [binOp,Op.intArith,ne_eq,not_true_eq_false,if_false]; rw [u_sub hk]; rfl⟩
 case mul=>exact ⟨_,_,h,fun r=>hmk r _,fun w=>by simp only [binOp,Op.intArith,ne_eq,not_true_eq_false,if_false]; rw [u_mul hk]; rfl⟩
 case and=>exact ⟨_,_,h,fun r=>hmk r _,fun w=>by simp only [binOp,Op.intBits,ne_eq,not_true_eq_false,if_false,ofInt_w]; rw [wrap_w hk]; rfl⟩
 case or=>exact ⟨_,_,h,fun r=>hmk r _,fun w=>by simp only [binOp,Op.intBits,ne_eq,not_true_eq_false,if_false,ofInt_w]; rw [wrap_w hk]; rfl⟩
 case xor=>exact ⟨_,_,h,fun r=>hmk r _,fun w=>by simp only [binOp,Op.intBits,ne_eq,not_true_eq_false,if_false,ofInt_w]; rw [wrap_w hk]; rfl⟩
 case andNot=>exact ⟨_,_,h,fun r=>hmk r _,fun w=>by simp only [binOp,Op.intBits,ne_eq,not_true_eq_false,if_false,ofInt_w]; rw [wrap_w hk]; rfl⟩
 case quo =>
  have hy:((y.toNat:Int))≠0:=fun e=>h.1 (BitVec.eq_of_toNat_eq (by simpa using e))
  exact ⟨_,_,h.2,fun r=>hmk r _,fun w=>by simp only [binOp,Op.intDiv,ne_eq,not_true_eq_false,if_false,if_neg hy]; rw [u_div hk]; rfl⟩
 case rem =>
  have hy:((y.toNat:Int))≠0:=fun e=>h.1 (BitVec.eq_of_toNat_eq (by simpa using e))
  exact ⟨_,_,h.2,fun r=>hmk r _,fun w=>by simp only [binOp,Op.intDiv,ne_eq,not_true_eq_false,if_false,if_neg hy]; rw [u_rem]; rfl⟩
 case eql=>exact ⟨_,_,h,fun r=>rfl,fun w=>by simp only [binOp,Op.intCmp,ne_eq,not_true_eq_false,if_false]; rw [u_eq]; rfl⟩
 case neq=>exact ⟨_,_,h,fun r=>rfl,fun w=>by simp only [binOp,Op.intCmp,ne_eq,not_true_eq_false,if_false]; rw [u_ne]; rfl⟩
 case lss=>exact ⟨_,_,h,fun r=>rfl,fun w=>by simp only [binOp,Op.intCmp,ne_eq,not_true_eq_false,if_false]; rw [u_lt]; rfl⟩
 case leq=>exact ⟨_,_,h,fun r=>rfl,fun w=>by simp only [binOp,Op.intCmp,ne_eq,not_true_eq_false,if_false]; rw [u_le]; rfl⟩
 case gtr=>exact ⟨_,_,h,fun r=>rfl,fun w=>by simp only [binOp,Op.intCmp,ne_eq,not_true_eq_false,if_false,gt_iff_lt]; rw [u_lt]; rfl⟩
 case geq=>exact ⟨_,_,h,fun r=>rfl,fun w=>by simp only [binOp,Op.intCmp,ne_eq,not_true_eq_false,if_false,ge_iff_le]; rw [u_le]; rfl⟩
theorem ofInt_nat {n:Nat} {a:Int} (h:0≤a):BitVec.ofInt n a=BitVec.ofNat n a.toNat:=by
 rw [← BitVec.ofInt_natCast,Int.toNat_of_nonneg h]
theorem bits_nat {a b:Int} (h:0≤a∧0≤b∧a≤9223372036854775807∧b≤9223372036854775807) (f:∀ {n:Nat},BitVec n→BitVec n→BitVec n) (g:Nat→Nat→Nat)
  (hf:∀ x y:BitVec 64,(f x y).toNat=g x.toNat y.toNat) (hg:g a.toNat b.toNat<2 ^ 63) :
  IntKind.i64.wrap ((f (BitVec.ofInt IntKind.i64.bits a) (BitVec.ofInt IntKind.i64.bits b)).toNat:Int)=((g a.toNat b.toNat:Nat):Int):=by
 show IntKind.i64.wrap ((f (BitVec.ofInt 64 a) (BitVec.ofInt 64 b)).toNat:Int)=_
 rw [hf,ofInt_nat h.1,ofInt_nat h.2.1,BitVec.toNat_ofNat,BitVec.toNat_ofNat,Nat.mod_eq_of_lt (by omega),Nat.mod_eq_of_lt (by omega)]
 exact wrap_i64 (by omega)
theorem ibin_spec {op:BinOp} {a b:Int} {K:SC→Prop} (t:TypeId) (h:ibin op a b K) :
  ∃ z q,K z∧(∀ r,z.Is r q)∧∀ w:World,(binOp op t (.int .i64 a) (.int .i64 b)).run P w=.ok q w:=by
 cases op <;> simp only [ibin] at h
 case add=>exact ⟨_,_,h.2,fun r=>rfl,fun w=>by simp [binOp,Op.intArith,pure,wrap_i64 h.1]⟩
 case sub=>exact ⟨_,_,h.2,fun r=>rfl,fun w=>by simp [binOp,Op.intArith,pure,wrap_i64 h.1]⟩
 case mul=>exact ⟨_,_,h.2,fun r=>rfl,fun w=>by simp [binOp,Op.intArith,pure,wrap_i64 h.1]⟩
 case quo =>
  obtain ⟨⟨h1,h2,h3⟩,h⟩:=h
  have e:a.tdiv b=a / b:=Int.tdiv_eq_ediv_of_nonneg h1
  have h4:0≤a / b:=Int.ediv_nonneg h1 (by omega)
  have h5:a / b≤a:=Int.ediv_le_self _ h1
  exact ⟨_,_,h,fun r=>rfl,fun w=>by simp [binOp,Op.intDiv,pure,show b≠0 by omega,e,wrap_i64 (n:=a / b) (by omega)]⟩
 case rem =>
  obtain ⟨⟨h1,h2⟩,h⟩:=h
  exact ⟨_,_,h,fun r=>rfl,fun w=>by simp [binOp,Op.intDiv,pure,show b≠0 by omega,Int.tmod_eq_emod_of_nonneg h1]⟩
 case and =>
  have:=bits_nat h.1 (fun x y=>x &&& y) (fun x y=>x &&& y) (fun x y=>by simp) (Nat.and_lt_two_pow _ (by omega))
  exact ⟨_,_,h.2,fun r=>rfl,fun w=>by simp only [binOp,Op.intBits,ne_eq,not_true_eq_false,if_false]; rw [this]; rfl⟩
 case or =>
  have:=bits_nat h.1 (fun x y=>x ||| y) (fun x y=>x ||| y) (fun x y=>by simp) (Nat.or_lt_two_pow (by omega) (by omega))
  exact ⟨_,_,h.2,fun r=>rfl,fun w=>by simp only [binOp,Op.intBits,ne_eq,not_true_eq_false,if_false]; rw [this]; rfl⟩
 case xor =>
  have:=bits_nat h.1 (fun x y=>x ^^^ y) (fun x y=>x ^^^ y) (fun x y=>by simp) (Nat.xor_lt_two_pow (by omega) (by omega))
  exact ⟨_,_,h.2,fun r=>rfl,fun w=>by simp only [binOp,Op.intBits,ne_eq,not_true_eq_false,if_false]; rw [this]; rfl⟩
 case eql=>exact ⟨_,_,h,fun r=>rfl,fun w=>by simp [binOp,Op.intCmp,pure]; rw [Bool.eq_iff_iff]; simp⟩
 case neq=>exact ⟨_,_,h,fun r=>rfl,fun w=>by simp [binOp,Op.intCmp,pure]; rw [Bool.eq_iff_iff]; simp⟩
 case lss=>exact ⟨_,_,h,fun r=>rfl,fun w=>rfl⟩
 case leq=>exact ⟨_,_,h,fun r=>rfl,fun w=>rfl⟩
 case gtr=>exact ⟨_,_,h,fun r=>rfl,fun w=>rfl⟩
 case geq=>exact ⟨_,_,h,fun r=>rfl,fun w=>rfl⟩
theorem bits_nat32 {a b:Int} (h:0≤a∧0≤b∧a≤2147483647∧b≤2147483647) (f:∀ {n:Nat},BitVec n→BitVec n→BitVec n) (g:Nat→Nat→Nat)
  (hf:∀ x y:BitVec 32,(f x y).toNat=g x.toNat y.toNat) (hg:g a.toNat b.toNat<2 ^ 31) :
  IntKind.i32.wrap ((f (BitVec.ofInt IntKind.i32.bits a) (BitVec.ofInt IntKind.i32.bits b)).toNat:Int)=((g a.toNat b.toNat:Nat):Int):=by
 show IntKind.i32.wrap ((f (BitVec.ofInt 32 a) (BitVec.ofInt 32 b)).toNat:Int)=_
 rw [hf,ofInt_nat h.1,ofInt_nat h.2.1,BitVec.toNat_ofNat,BitVec.toNat_ofNat,Nat.mod_eq_of_lt (by omega),Nat.mod_eq_of_lt (by omega)]
 exact wrap_i32 (by omega)
theorem jbin_spec {op:BinOp} {a b:Int} {K:SC→Prop} (t:TypeId) (h:jbin op a b K) :
  ∃ z q,K z∧(∀ r,z.Is r q)∧∀ w:World,(binOp op t (.int .i32 a) (.int .i32 b)).run P w=.ok q w:=by
 cases op <;> simp only [jbin] at h
 case add=>exact ⟨_,_,h.2,fun r=>rfl,fun w=>by simp [binOp,Op.intArith,pure,wrap_i32 h.1]⟩
 case sub=>exact ⟨_,_,h.2,fun r=>rfl,fun w=>by simp [binOp,Op.intArith,pure,wrap_i32 h.1]⟩
 case and =>
  have:=bits_nat32 h.1 (fun x y=>x &&& y) (fun x y=>x &&& y) (fun x y=>by simp) (Nat.and_lt_two_pow _ (by omega))
  exact ⟨_,_,h.2,fun r=>rfl,fun w=>by simp only [binOp,Op.intBits,ne_eq,not_true_eq_false,if_false]; rw [this]; rfl⟩
 case or =>
  have:=bits_nat32 h.1 (fun x y=>x ||| y) (fun x y=>x ||| y) (fun x y=>by simp) (Nat.or_lt_two_pow (by omega) (by omega))
  exact ⟨_,_,h.2,fun r=>rfl,fun w=>by simp only [binOp,Op.intBits,ne_eq,not_true_eq_false,if_false]; rw [this]; rfl⟩
 case eql=>exact ⟨_,_,h,fun r=>rfl,fun w=>by simp [binOp,Op.intCmp,pure]; rw [Bool.eq_iff_iff]; simp⟩
 case neq=>exact ⟨_,_,h,fun r=>rfl,fun w=>by simp [binOp,Op.intCmp,pure]; rw [Bool.eq_iff_iff]; simp⟩
 case lss=>exact ⟨_,_,h,fun r=>rfl,fun w=>rfl⟩
 case leq=>exact ⟨_,_,h,fun r=>rfl,fun w=>rfl⟩
 case gtr=>exact ⟨_,_,h,fun r=>rfl,fun w=>rfl⟩
 case geq=>exact ⟨_,_,h,fun r=>rfl,fun w=>rfl⟩
theorem and1023 (a:Int):IntKind.i64.wrap (((BitVec.ofInt IntKind.i64.bits a) &&& (BitVec.ofInt IntKind.i64.bits 1023)).toNat:Int)=a % 1024:=by
 show IntKind.i64.wrap (((BitVec.ofInt 64 a) &&& (BitVec.ofInt 64 1023)).toNat:Int)=_
 have e:((BitVec.ofInt 64 a) &&& (BitVec.ofInt 64 1023)).toNat=(a % 1024).toNat:=by
  rw [BitVec.toNat_and,show (BitVec.ofInt 64 1023).toNat=2 ^ 10-1 from rfl,Nat.and_two_pow_sub_one_eq_mod,BitVec.toNat_ofInt]
  omega
 rw [e,Int.toNat_of_nonneg (by omega)]
 exact wrap_i64 (by omega)
theorem mask10_spec {b:Int} (h:mask10 b=true):b=1023:=by
 unfold mask10 at h
 split at h
 ·rw [Nat.eq_of_beq_eq_true h]; rfl
 ·cases h
theorem ibinC_spec {cn:Bool} {op:BinOp} {a b:Int} {K:SC→Prop} (t:TypeId) (h:ibinC cn op a b K) :
  ∃ z q,K z∧(∀ r,z.Is r q)∧∀ w:World,(binOp op t (.int .i64 a) (.int .i64 b)).run P w=.ok q w:=by
 unfold ibinC at h
 split at h
 ·split at h
  ·split at h
   ·rename_i hb
    obtain rfl:=mask10_spec hb
    exact ⟨_,_,h,fun r=>rfl,fun w=>by simp only [binOp,Op.intBits,ne_eq,not_true_eq_false,if_false]; rw [and1023]; rfl⟩
   ·exact ibin_spec t h
  ·split at h
   ·obtain ⟨h2,h⟩:=h
    exact ⟨_,_,h,fun r=>rfl,fun w=>by simp [binOp,Op.intDiv,pure,show b≠0 by omega]⟩
   ·exact ibin_spec t h
  ·exact ibin_spec t h
 ·exact ibin_spec t h
end
end Sx
end
section
namespace Sx
open Go.RowKit

theorem asC_spec {x:SV} {k:SC→Prop} (h:asC x k):∃ y,x=.a (.c y)∧k y:=by
 unfold asC at h
 split at h
 ·rw [frcSC_eq] at h; exact ⟨_,rfl,h⟩
 ·exact h.elim
theorem td_spec {C:Cx} (hT:AllT C.P C.T) {t:Nat} {k:TD→Prop} (h:td C t k):∃ d,TdOk C.P t d∧k d:=by
 unfold td at h
 split at h
 ·rename_i a b c d hd
  exact ⟨_,hT.find hd,h⟩
 ·exact h.elim
section
variable {P : Program}
theorem TdOk.und {t:TypeId} {d:TD} (h:TdOk P t d):∃ u,P.underlying t=some u∧(match u with|.struct _=>true|.array ..=>true|_=>false)=d.isAgg:=by
 have hk:=h.kind
 cases hd:d.k <;> rw [hd] at hk <;> simp only [TK.Ok] at hk <;> simp only [TD.isAgg,hd]
 case struct =>
  unfold fieldsOf at hk
  split at hk
  ·exact ⟨_,by assumption,rfl⟩
  ·cases hk
 case ifc =>
  unfold isIfc at hk
  split at hk
  ·exact ⟨_,by assumption,rfl⟩
  ·cases hk
 case fn =>
  unfold isFn at hk
  split at hk
  ·exact ⟨_,by assumption,rfl⟩
  ·cases hk
 case map =>
  obtain ⟨k,e,hk,_⟩:=hk
  exact ⟨_,hk,rfl⟩
 all_goals exact ⟨_,hk,rfl⟩
theorem TdOk.inf {t:TypeId} {d:TD} (h:TdOk P t d):∃ i,P.info? t=some i∧i.size=d.size∧i.bytes=d.bytes∧i.zero=some d.zeroVal:=by
 obtain ⟨i,hi,e⟩:=Option.map_eq_some_iff.1 h.info
 simp only [Prod.mk.injEq] at e
 exact ⟨i,hi,e.1,e.2.1,e.2.2⟩
theorem TdOk.isAgg {t:TypeId} {d:TD} (h:TdOk P t d) (w:World):(isAgg t).run P w=.ok d.isAgg w:=by
 obtain ⟨u,hu,e⟩:=h.und
 simp only [Go.isAgg,Sem.run_bind,run_underlying hu,Result.andThen_ok,← e]
 cases u <;> rfl
theorem TdOk.sizeOf {t:TypeId} {d:TD} (h:TdOk P t d) (w:World):(sizeOf t).run P w=.ok d.size w:=by
 obtain ⟨i,hi,e,_,_⟩:=h.inf
 simp [Go.sizeOf,typeInfo,hi,e]
theorem TdOk.zeroValue {t:TypeId} {d:TD} (h:TdOk P t d) (w:World):(zeroValue t).run P w=.ok d.zeroVal w:=by
 obtain ⟨i,hi,_,_,e⟩:=h.inf
 simp [Go.zeroValue,typeInfo,hi,e]
theorem eqGuard_ok {op:BinOp} {t:TypeId} {X Y:Operand} {p q:Value} (h:(∀ a,p≠.agg a)∧((p≠.nilIface∨q≠.nilIface)∨(isConst X || isConst Y)=true)) (w:World):(eqGuard op t X Y p q).run P w=.ok () w:=by
 unfold eqGuard
 cases op <;> try rfl
 all_goals
  simp only [Bool.not_true,Bool.false_eq_true,if_false]
  obtain ⟨ha,hn⟩:=h
  cases p <;> try rfl
  case agg a=>exact absurd rfl (ha a)
  case nilIface =>
   cases q <;> try rfl
   rcases hn with hn|hn
   ·exact absurd rfl (by rcases hn with h|h <;> exact h)
   ·cases X <;> cases Y <;> first|rfl|cases hn
theorem eql_run {t:TypeId} {p q:Value} {b:Bool} (hd:∀ d w,(Op.equalIn (d+1) t p q).run P w=.ok b w) (h1:binOp .eql t p q=(do pure (.bool (← Op.equal t p q)))) (h2:binOp .neq t p q=(do pure (.bool (!(← Op.equal t p q))))) :
  (∀ w,(binOp .eql t p q).run P w=.ok (.bool b) w)∧(∀ w,(binOp .neq t p q).run P w=.ok (.bool (!b)) w):=by
 have e:∀ w,(Op.equal t p q).run P w=.ok b w:=fun w=>hd 9999 w
 constructor
 ·intro w
  rw [h1,Sem.run_bind,e]; rfl
 ·intro w
  rw [h2,Sem.run_bind,e]; rfl
theorem eqv_spec {tk:TK} {t:TypeId} (hk:tk.Ok P t) {cn:Bool} {x y:SC} {K:Bool→Prop} (h:eqv tk cn x y K) {r:Rho} {p q:Value} (hx:x.Is r p) (hy:y.Is r q) :
  ∃ b,K b∧(∀ w,(binOp .eql t p q).run P w=.ok (.bool b) w)∧(∀ w,(binOp .neq t p q).run P w=.ok (.bool (!b)) w)∧(∀ a,p≠.agg a)∧((p≠.nilIface∨q≠.nilIface)∨cn=true):=by
 have fin:∀ {b},K b→(∀ d w,(Op.equalIn (d+1) t p q).run P w=.ok b w)→(binOp .eql t p q=(do pure (.bool (← Op.equal t p q))))→(binOp .neq t p q=(do pure (.bool (!(← Op.equal t p q)))))→(∀ a,p≠.agg a)→((p≠.nilIface∨q≠.nilIface)∨cn=true) →
   ∃ b,K b∧(∀ w,(binOp .eql t p q).run P w=.ok (.bool b) w)∧(∀ w,(binOp .neq t p q).run P w=.ok (.bool (!b)) w)∧(∀ a,p≠.agg a)∧((p≠.nilIface∨q≠.nilIface)∨cn=true):=by
  intro b h1 h2 h3 h4 h5 h6
  exact ⟨b,h1,(eql_run h2 h3 h4).1,(eql_run h2 h3 h4).2,h5,h6⟩
 unfold eqv at h
 split at h <;> simp only [SC.Is] at hx hy <;> try exact h.elim
 all_goals simp only [TK.Ok] at hk
 ·subst hx; subst hy
  exact fin h (fun d w=>by simp only [Op.equalIn,Sem.run_bind,run_underlying hk,Result.andThen_ok]; rfl) rfl rfl (by simp) (by simp)
 ·obtain ⟨B,f,_,rfl⟩:=hx; subst hy
  exact fin h (fun d w=>by simp only [Op.equalIn,Sem.run_bind,run_underlying hk,Result.andThen_ok]; rfl) rfl rfl (by simp) (by simp)
 ·obtain ⟨B,f,_,rfl⟩:=hy; subst hx
  exact fin h (fun d w=>by simp only [Op.equalIn,Sem.run_bind,run_underlying hk,Result.andThen_ok]; rfl) rfl rfl (by simp) (by simp)
 ·subst hx; subst hy
  exact fin h (fun d w=>by simp only [Op.equalIn,Sem.run_bind,run_underlying hk,Result.andThen_ok]; rfl) rfl rfl (by simp) (by simp)
 ·subst hx; subst hy
  exact fin h (fun d w=>by simp only [Op.equalIn,Sem.run_bind,run_underlying hk,Result.andThen_ok]; rfl) rfl rfl (by simp) (by simp)
 ·obtain ⟨B,f,_,rfl⟩:=hx; subst hy
  exact fin h (fun d w=>by simp only [Op.equalIn,Sem.run_bind,run_underlying hk,Result.andThen_ok]; rfl) rfl rfl (by simp) (by simp)
 ·obtain ⟨B,f,_,rfl⟩:=hy; subst hx
  exact fin h (fun d w=>by simp only [Op.equalIn,Sem.run_bind,run_underlying hk,Result.andThen_ok]; rfl) rfl rfl (by simp) (by simp)
 ·subst hx; subst hy
  exact fin h (fun d w=>by simp only [Op.equalIn,Sem.run_bind,run_underlying hk,Result.andThen_ok]; rfl) rfl rfl (by simp) (by simp)
 ·subst hx; subst hy
  exact fin h (fun d w=>by simp only [Op.equalIn,Sem.run_bind,run_underlying hk,Result.andThen_ok]; rfl) rfl rfl (by simp) (by simp)
 ·have hk':∃ ms,P.underlying t=some (.interface ms):=by
   unfold isIfc at hk
   split at hk
   ·exact ⟨_,by assumption⟩
   ·cases hk
  obtain ⟨ms,hk⟩:=hk'
  subst hx; subst hy
  split at h
  ·exact fin h (fun d w=>by simp only [Op.equalIn,Sem.run_bind,run_underlying hk,Result.andThen_ok]; rfl) rfl rfl (by simp) (by simp)
  ·exact h.elim
 ·have hk':∃ ms,P.underlying t=some (.interface ms):=by
   unfold isIfc at hk
   split at hk
   ·exact ⟨_,by assumption⟩
   ·cases hk
  obtain ⟨ms,hk⟩:=hk'
  subst hx; subst hy
  exact fin h (fun d w=>by simp only [Op.equalIn,Sem.run_bind,run_underlying hk,Result.andThen_ok]; rfl) rfl rfl (by simp) (by simp)
 ·have hk':∃ ms,P.underlying t=some (.interface ms):=by
   unfold isIfc at hk
   split at hk
   ·exact ⟨_,by assumption⟩
   ·cases hk
  obtain ⟨ms,hk⟩:=hk'
  subst hx; subst hy
  exact fin h (fun d w=>by simp only [Op.equalIn,Sem.run_bind,run_underlying hk,Result.andThen_ok]; rfl) rfl rfl (by simp) (by simp)
 ·have hk':∃ a b c,P.underlying t=some (.func a b c):=by
   unfold isFn at hk
   split at hk
   ·exact ⟨_,_,_,by assumption⟩
   ·cases hk
  obtain ⟨a,b,c,hk⟩:=hk'
  subst hx; subst hy
  exact fin h (fun d w=>by simp only [Op.equalIn,Sem.run_bind,run_underlying hk,Result.andThen_ok]; rfl) rfl rfl (by simp) (by simp)
 ·have hk':∃ a b c,P.underlying t=some (.func a b c):=by
   unfold isFn at hk
   split at hk
   ·exact ⟨_,_,_,by assumption⟩
   ·cases hk
  obtain ⟨a,b,c,hk⟩:=hk'
  subst hx; subst hy
  exact fin h (fun d w=>by simp only [Op.equalIn,Sem.run_bind,run_underlying hk,Result.andThen_ok]; rfl) rfl rfl (by simp) (by simp)
 ·subst hy
  rcases hx with ⟨rfl,rfl,_,_⟩|⟨rfl,B,f,_,rfl⟩|⟨rfl,_,_,_,_,_,rfl⟩
  ·exact fin h (fun d w=>by simp only [Op.equalIn,Sem.run_bind,run_underlying hk,Result.andThen_ok]; rfl) rfl rfl (by simp) (by simp)
  ·exact fin h (fun d w=>by simp only [Op.equalIn,Sem.run_bind,run_underlying hk,Result.andThen_ok]; rfl) rfl rfl (by simp) (by simp)
  ·exact fin h (fun d w=>by simp only [Op.equalIn,Sem.run_bind,run_underlying hk,Result.andThen_ok]; rfl) rfl rfl (by simp) (by simp)
 ·subst hx
  rcases hy with ⟨rfl,rfl,_,_⟩|⟨rfl,B,f,_,rfl⟩|⟨rfl,_,_,_,_,_,rfl⟩
  ·exact fin h (fun d w=>by simp only [Op.equalIn,Sem.run_bind,run_underlying hk,Result.andThen_ok]; rfl) rfl rfl (by simp) (by simp)
  ·exact fin h (fun d w=>by simp only [Op.equalIn,Sem.run_bind,run_underlying hk,Result.andThen_ok]; rfl) rfl rfl (by simp) (by simp)
  ·exact fin h (fun d w=>by simp only [Op.equalIn,Sem.run_bind,run_underlying hk,Result.andThen_ok]; rfl) rfl rfl (by simp) (by simp)
theorem bin_spec {tk:TK} {t:TypeId} (hk:tk.Ok P t) {op:BinOp} {X Y:Operand} {x y:SC} {K:SC→Prop} (h:bin op tk (isConst X || isConst Y) x y K) {r:Rho} {p q:Value} (hx:x.Is r p) (hy:y.Is r q) :
  ∃ z v,K z∧(∀ r,z.Is r v)∧∀ w,(do eqGuard op t X Y p q; binOp op t p q:Sem Value).run P w=.ok v w:=by
 have fin:∀ {z v},K z→(∀ r,z.Is r v)→((∀ a,p≠.agg a)∧((p≠.nilIface∨q≠.nilIface)∨(isConst X || isConst Y)=true))→(∀ w,(binOp op t p q).run P w=.ok v w)→∃ z v,K z∧(∀ r,z.Is r v)∧∀ w,(do eqGuard op t X Y p q; binOp op t p q:Sem Value).run P w=.ok v w:=by
  intro z v h1 h2 h3 h4
  exact ⟨z,v,h1,h2,fun w=>by rw [Sem.run_bind,eqGuard_ok h3]; exact h4 w⟩
 unfold bin at h
 split at h
 ·exact h.elim
 ·exact h.elim
 split at h
 ·simp only [SC.Is] at hx hy
  subst hx; subst hy
  obtain ⟨z,v,h1,h2,h3⟩:=ibinC_spec (P:=P) t h
  exact fin h1 h2 (by simp) h3
 ·simp only [SC.Is] at hx hy
  subst hx; subst hy
  obtain ⟨z,v,h1,h2,h3⟩:=jbin_spec (P:=P) t h
  exact fin h1 h2 (by simp) h3
 ·simp only [SC.Is] at hx hy
  subst hx; subst hy
  obtain ⟨z,v,h1,h2,h3⟩:=wbin_spec (P:=P) (k:=.u8) .w8 (fun _ _=>rfl) rfl t h
  exact fin h1 h2 (by simp) h3
 ·simp only [SC.Is] at hx hy
  subst hx; subst hy
  obtain ⟨z,v,h1,h2,h3⟩:=wbin_spec (P:=P) (k:=.u16) .w16 (fun _ _=>rfl) rfl t h
  exact fin h1 h2 (by simp) h3
 ·simp only [SC.Is] at hx hy
  subst hx; subst hy
  obtain ⟨z,v,h1,h2,h3⟩:=wbin_spec (P:=P) (k:=.u32) .w32 (fun _ _=>rfl) rfl t h
  exact fin h1 h2 (by simp) h3
 ·simp only [SC.Is] at hx hy
  subst hx; subst hy
  obtain ⟨z,v,h1,h2,h3⟩:=wbin_spec (P:=P) (k:=.u64) .w64 (fun _ _=>rfl) rfl t h
  exact fin h1 h2 (by simp) h3
 ·simp only [SC.Is] at hx hy
  subst hx; subst hy
  split at h
  ·refine fin h.2 (fun r=>rfl) (by simp) (fun w=>?_)
   have h1:=h.1
   have hm:IntKind.i64.max=9223372036854775807:=by decide
   simp only [binOp,Op.stringOp,hm]
   rw [if_neg (by show ¬ (((_:Nat):Int) > 9223372036854775807); simp only [ByteArray.size]; simp; omega)]
   simp [pure]
   rfl
  ·refine fin h (fun r=>rfl) (by simp) (fun w=>?_)
   simp [binOp,Op.stringOp,pure]
   rw [Bool.eq_iff_iff]; simp
  ·refine fin h (fun r=>rfl) (by simp) (fun w=>?_)
   simp [binOp,Op.stringOp,pure]
   rw [Bool.eq_iff_iff]; simp
  ·exact h.elim
 ·split at h
  ·obtain ⟨b,h1,h2,_,h4⟩:=eqv_spec hk h hx hy
   exact fin h1 (fun r=>rfl) h4 h2
  ·obtain ⟨b,h1,_,h3,h4⟩:=eqv_spec hk h hx hy
   exact fin h1 (fun r=>rfl) h4 h3
  ·exact h.elim
end
end Sx
end
section
namespace Sx
open Go.RowKit

section
variable {P : Program}
theorem ofW_spec {x:SC} {K:(n:Nat)→BitVec n→Prop} (h:ofW x K):∃ (k:IntKind) (y:BitVec k.bits),(∀ r v,x.Is r v→v=.int k (y.toNat:Int))∧k.signed=false∧K k.bits y:=by
 unfold ofW at h
 split at h
 ·exact ⟨.u8,_,fun r v hv=>hv,rfl,h⟩
 ·exact ⟨.u16,_,fun r v hv=>hv,rfl,h⟩
 ·exact ⟨.u32,_,fun r v hv=>hv,rfl,h⟩
 ·exact ⟨.u64,_,fun r v hv=>hv,rfl,h⟩
 ·exact h.elim
theorem idx_spec {x:SC} {K:Int→Prop} (h:idx x K):∃ n,K n∧∀ (r:Rho) v,x.Is r v→∃ k,v=.int k n:=by
 unfold idx at h
 split at h
 ·exact ⟨_,h,fun r v hv=>⟨_,hv⟩⟩
 ·obtain ⟨k,y,e,_,h⟩:=ofW_spec h
  exact ⟨_,h,fun r v hv=>⟨_,e r v hv⟩⟩
theorem amount_spec {x:SC} {K:Nat→Prop} (h:amount x K):∃ n,K n∧∀ (r:Rho) v,x.Is r v→∃ k,v=.int k (n:Int):=by
 unfold amount at h
 split at h
 ·exact ⟨_,h,fun r v hv=>⟨_,hv⟩⟩
 ·exact ⟨_,h,fun r v hv=>⟨_,hv⟩⟩
 ·exact ⟨_,h,fun r v hv=>⟨_,hv⟩⟩
 ·exact ⟨_,h,fun r v hv=>⟨_,hv⟩⟩
 ·exact ⟨_,h.2,fun r v hv=>⟨_,by rw [Int.toNat_of_nonneg h.1]; exact hv⟩⟩
 ·exact h.elim
theorem wsh_spec {k:IntKind} (mk:BitVec k.bits→SC) (hmk:∀ r x,(mk x).Is r (.int k (x.toNat:Int))) (hk:k.signed=false) {left:Bool} {x:BitVec k.bits} {n:Nat} {K:SC→Prop} (t:TypeId) (h:wsh mk left x n K) :
  ∃ z q,K z∧(∀ r,z.Is r q)∧∀ (k':IntKind) (w:World),(binOp (if left then .shl else .shr) t (.int k (x.toNat:Int)) (.int k' (n:Int))).run P w=.ok q w:=by
 cases left <;> simp only [wsh] at h
 ·refine ⟨_,_,h,fun r=>hmk r _,fun k' w=>?_⟩
  simp only [binOp,Op.shift,Bool.false_eq_true,if_false]
  rw [if_neg (by omega),Int.toNat_natCast,u_shr]; rfl
 ·refine ⟨_,_,h,fun r=>hmk r _,fun k' w=>?_⟩
  simp only [binOp,Op.shift,if_true]
  rw [if_neg (by omega),Int.toNat_natCast,u_shl hk]; rfl
theorem sh_spec {left:Bool} {x:SC} {n:Nat} {K:SC→Prop} (t:TypeId) (h:sh left x n K) {r:Rho} {p:Value} (hx:x.Is r p) :
  ∃ z q,K z∧(∀ r,z.Is r q)∧∀ (k':IntKind) (w:World),(binOp (if left then .shl else .shr) t p (.int k' (n:Int))).run P w=.ok q w:=by
 unfold sh at h
 split at h <;> simp only [SC.Is] at hx
 ·subst hx; exact wsh_spec (k:=.u8) .w8 (fun _ _=>rfl) rfl t h
 ·subst hx; exact wsh_spec (k:=.u16) .w16 (fun _ _=>rfl) rfl t h
 ·subst hx; exact wsh_spec (k:=.u32) .w32 (fun _ _=>rfl) rfl t h
 ·subst hx; exact wsh_spec (k:=.u64) .w64 (fun _ _=>rfl) rfl t h
 ·subst hx
  split at h
  ·refine ⟨_,_,h.2,fun r=>rfl,fun k' w=>?_⟩
   have h1:min n IntKind.i64.bits=n:=Nat.min_eq_left (by show n≤64; omega)
   simp only [binOp,Op.shift,if_true]
   rw [if_neg (by omega),Int.toNat_natCast,h1,wrap_i64 h.1.2]; rfl
  ·refine ⟨_,_,h.2,fun r=>rfl,fun k' w=>?_⟩
   have h1:min n IntKind.i64.bits=n:=Nat.min_eq_left (by show n≤64; omega)
   simp only [binOp,Op.shift,Bool.false_eq_true,if_false]
   rw [if_neg (by omega),Int.toNat_natCast,h1,Int.fdiv_eq_ediv_of_nonneg _ (Int.le_of_lt (Int.pow_pos (by omega)))]; rfl
 ·subst hx
  split at h
  ·refine ⟨_,_,h.2,fun r=>rfl,fun k' w=>?_⟩
   have h1:min n IntKind.i32.bits=n:=Nat.min_eq_left (by show n≤32; omega)
   simp only [binOp,Op.shift,if_true]
   rw [if_neg (by omega),Int.toNat_natCast,h1,wrap_i32 h.1.2]; rfl
  ·refine ⟨_,_,h.2,fun r=>rfl,fun k' w=>?_⟩
   have h1:min n IntKind.i32.bits=n:=Nat.min_eq_left (by show n≤32; omega)
   simp only [binOp,Op.shift,Bool.false_eq_true,if_false]
   rw [if_neg (by omega),Int.toNat_natCast,h1,Int.fdiv_eq_ediv_of_nonneg _ (Int.le_of_lt (Int.pow_pos (by omega)))]; rfl
 ·exact h.elim
theorem u_neg {k:IntKind} (hk:k.signed=false) (x:BitVec k.bits):k.wrap (0-(x.toNat:Int))=((-x).toNat:Int):=by
 have:=u_sub hk (0:BitVec k.bits) x
 simpa using this
theorem u_not {k:IntKind} (hk:k.signed=false) (x:BitVec k.bits):BitVec.ofInt k.bits k.max ^^^ x = ~~~x:=by
 have h1:BitVec.ofInt k.bits k.max=BitVec.allOnes k.bits:=by
  cases k <;> first|exact absurd hk (by decide)|decide
 rw [h1]; simp
theorem un_spec {op:UnOp} {x:SC} {K:SC→Prop} (h:un op x K) {r:Rho} {p:Value} (hx:x.Is r p) :
  ∃ z v,K z∧(∀ r,z.Is r v)∧∀ w:World,(Op.unary op p).run P w=.ok v w:=by
 have neg:∀ {k:IntKind} (hk:k.signed=false) (x:BitVec k.bits) (w:World),(Op.unary .neg (.int k (x.toNat:Int))).run P w=.ok (.int k ((-x).toNat:Int)) w:=by
  intro k hk x w
  simp only [Op.unary,Op.intArith]
  rw [u_neg hk]; rfl
 have not_:∀ {k:IntKind} (hk:k.signed=false) (x:BitVec k.bits) (w:World),(Op.unary .xor (.int k (x.toNat:Int))).run P w=.ok (.int k ((~~~x).toNat:Int)) w:=by
  intro k hk x w
  simp only [Op.unary,Op.intBits,hk,Bool.false_eq_true,if_false,ofInt_w]
  rw [u_not hk,wrap_w hk]; rfl
 unfold un at h
 split at h <;> simp only [SC.Is] at hx <;> try exact h.elim
 all_goals subst hx
 ·exact ⟨_,_,h,fun r=>rfl,fun w=>rfl⟩
 ·refine ⟨_,_,h.2,fun r=>rfl,fun w=>?_⟩
  simp only [Op.unary,Op.intArith]
  rw [wrap_i64 (by omega)]; simp [pure]
 ·exact ⟨_,_,h,fun r=>rfl,fun w=>neg (k:=.u8) rfl _ w⟩
 ·exact ⟨_,_,h,fun r=>rfl,fun w=>neg (k:=.u16) rfl _ w⟩
 ·exact ⟨_,_,h,fun r=>rfl,fun w=>neg (k:=.u32) rfl _ w⟩
 ·exact ⟨_,_,h,fun r=>rfl,fun w=>neg (k:=.u64) rfl _ w⟩
 ·exact ⟨_,_,h,fun r=>rfl,fun w=>not_ (k:=.u8) rfl _ w⟩
 ·exact ⟨_,_,h,fun r=>rfl,fun w=>not_ (k:=.u16) rfl _ w⟩
 ·exact ⟨_,_,h,fun r=>rfl,fun w=>not_ (k:=.u32) rfl _ w⟩
 ·exact ⟨_,_,h,fun r=>rfl,fun w=>not_ (k:=.u64) rfl _ w⟩
theorem conv_nat {k:IntKind} (hk:k.signed=false) {n:Nat} (x:BitVec n):k.wrap (x.toNat:Int)=((x.setWidth k.bits).toNat:Int):=by
 rw [wrap_nat hk,BitVec.toNat_setWidth]
theorem conv_int {k:IntKind} (hk:k.signed=false) (a:Int):k.wrap a=((BitVec.ofInt k.bits a).toNat:Int):=by
 rw [wrap_u hk,BitVec.toNat_ofInt,Int.toNat_of_nonneg (Int.emod_nonneg _ (by have:=Nat.two_pow_pos k.bits; omega))]
theorem run_intint {s d:TypeId} {u:TypeDesc} {k q:IntKind} {n:Int} (hs:P.underlying s=some u) (hd:P.underlying d=some (.int k)) (w:World):(convert s d (.int q n)).run P w=.ok (.int k (k.wrap n)) w:=by
 simp only [convert,Sem.run_bind,run_underlying hs,run_underlying hd,Result.andThen_ok]
 cases u <;> rfl
theorem conv_spec {s d:TypeId} {ds dd:TD} (hs:TdOk P s ds) (hd:TdOk P d dd) {x:SC} {K:SC→Prop} (h:conv dd.k x K) {r:Rho} {p:Value} (hx:x.Is r p) :
  ∃ z v,K z∧(∀ r,z.Is r v)∧∀ w:World,(convert s d p).run P w=.ok v w:=by
 obtain ⟨u,hu,_⟩:=hs.und
 have hk:=hd.kind
 have I:∀ {k q:IntKind} {n m:Int} {z:SC},P.underlying d=some (.int k)→k.wrap n=m→K z→(∀ r,z.Is r (.int k m))→∃ z v,K z∧(∀ r,z.Is r v)∧∀ w:World,(convert s d (.int q n)).run P w=.ok v w:=by
  intro k q n m z h1 h2 h3 h4
  exact ⟨z,_,h3,h4,fun w=>by rw [run_intint hu h1,h2]⟩
 unfold conv at h
 split at h
 case h_1 e=>rw [e] at hk; simp only [SC.Is] at hx; subst hx; exact I hk (wrap_i64 h.1) h.2 (fun r=>rfl)
 case h_2 e=>rw [e] at hk; simp only [SC.Is] at hx; subst hx; exact I hk (conv_int (k:=.u8) rfl _) h (fun r=>rfl)
 case h_3 e=>rw [e] at hk; simp only [SC.Is] at hx; subst hx; exact I hk (conv_int (k:=.u16) rfl _) h (fun r=>rfl)
 case h_4 e=>rw [e] at hk; simp only [SC.Is] at hx; subst hx; exact I hk (conv_int (k:=.u32) rfl _) h (fun r=>rfl)
 case h_5 e=>rw [e] at hk; simp only [SC.Is] at hx; subst hx; exact I hk (conv_int (k:=.u64) rfl _) h (fun r=>rfl)
 case h_6 e =>
  rw [e] at hk
  simp only [SC.Is] at hx
  subst hx
  refine ⟨_,_,h,fun r=>rfl,fun w=>?_⟩
  simp only [convert,Sem.run_bind,run_underlying hu,run_underlying hk,Result.andThen_ok]
  cases u <;> rfl
 case h_7 e=>rw [e] at hk; simp only [SC.Is] at hx; subst hx; exact I hk (wrap_i64 ⟨by omega,Int.ofNat_le.2 h.1⟩) h.2 (fun r=>rfl)
 case h_8 e=>rw [e] at hk; simp only [SC.Is] at hx; subst hx; rename_i y; exact I hk (wrap_i64 ⟨by omega,Int.ofNat_le.2 (Nat.le_of_lt (Nat.lt_of_lt_of_le (y.isLt) (by decide)))⟩) h (fun r=>rfl)
 case h_9 e=>rw [e] at hk; simp only [SC.Is] at hx; subst hx; rename_i y; exact I hk (wrap_i64 ⟨by omega,Int.ofNat_le.2 (Nat.le_of_lt (Nat.lt_of_lt_of_le (y.isLt) (by decide)))⟩) h (fun r=>rfl)
 case h_10 e=>rw [e] at hk; simp only [SC.Is] at hx; subst hx; rename_i y; exact I hk (wrap_i64 ⟨by omega,Int.ofNat_le.2 (Nat.le_of_lt (Nat.lt_of_lt_of_le (y.isLt) (by decide)))⟩) h (fun r=>rfl)
 case h_11 e=>rw [e] at hk; simp only [SC.Is] at hx; subst hx; rename_i y; exact I hk (wrap_i32 ⟨by omega,Int.le_trans (Int.ofNat_le.2 (Nat.le_of_lt (y.isLt))) (by decide)⟩) h (fun r=>rfl)
 case h_12 e=>rw [e] at hk; simp only [SC.Is] at hx; subst hx; exact I hk (conv_int (k:=.u8) rfl _) h (fun r=>rfl)
 case h_13 e=>rw [e] at hk; simp only [SC.Is] at hx; subst hx; exact I hk (conv_int (k:=.u32) rfl _) h (fun r=>rfl)
 case h_14 e=>rw [e] at hk; simp only [SC.Is] at hx; subst hx; exact I hk (wrap_i64 ⟨by omega,by omega⟩) h.2 (fun r=>rfl)
 case h_15=>rw [show dd.k=.int .u8 by assumption] at hk; obtain ⟨k,y,e,hs,h⟩:=ofW_spec h; obtain rfl:=e r p hx; exact I hk (conv_nat (k:=.u8) rfl _) h (fun r=>rfl)
 case h_16=>rw [show dd.k=.int .u16 by assumption] at hk; obtain ⟨k,y,e,hs,h⟩:=ofW_spec h; obtain rfl:=e r p hx; exact I hk (conv_nat (k:=.u16) rfl _) h (fun r=>rfl)
 case h_17=>rw [show dd.k=.int .u32 by assumption] at hk; obtain ⟨k,y,e,hs,h⟩:=ofW_spec h; obtain rfl:=e r p hx; exact I hk (conv_nat (k:=.u32) rfl _) h (fun r=>rfl)
 case h_18=>rw [show dd.k=.int .u64 by assumption] at hk; obtain ⟨k,y,e,hs,h⟩:=ofW_spec h; obtain rfl:=e r p hx; exact I hk (conv_nat (k:=.u64) rfl _) h (fun r=>rfl)
 case h_19=>exact h.elim
end
end Sx
end
section
namespace Sx
open Go.RowKit

theorem getT_eq:∀ (l:List SV) (n:Nat),getT l n=(l[n]?).getD .any
 | [],_=>rfl
 | _::_,0=>rfl
 | _::r,n+1=>getT_eq r n
theorem getH_eq:∀ (l:List (List Seg)) (n:Nat),getH l n=(l[n]?).getD []
 | [],_=>rfl
 | _::_,0=>rfl
 | _::r,n+1=>getH_eq r n
theorem ofInt_is (r:Rho) (k:IntKind) (n:Int):(ofInt k n).Is r (.int k n):=by
 unfold ofInt
 split <;> try rfl
 all_goals
  split
  ·split
   ·rename_i m hb
    have h:=Nat.blt_eq ▸ hb
    show _=_
    simp only [BitVec.toNat_ofNat]
    rw [Nat.mod_eq_of_lt (by simpa using h)]
    rfl
   ·rfl
  ·rfl
theorem ofVal_is (r:Rho) (v:Value):(ofVal v).Is r v:=by
 unfold ofVal
 split <;> first|trivial|rfl|exact ofInt_is _ _ _
section
variable {C : Cx} {t : List SV} {h : List (List Seg)} {r : Rho} {a : Act} {w w' : World}
theorem Ok.get {s:St} (k:Ok C s r a w) (d:Nat):(getT s.t d).Is r (a.tmps.getD d undef):=by
 rw [getT_eq]
 cases e:s.t[d]? with
 | none=>trivial
 | some x=>exact k.slots d x e
theorem Ok.ev {s:St} (k:Ok C s r a w) (x:Operand):(ev s.t x).Is r (a.eval x):=by
 cases x with
 | tmp d=>exact k.get d
 | const v=>exact ofVal_is r v
 | global g=>rfl
 | func f=>rfl
theorem HeapOk.ext0 (k:HeapOk C h r w) (e:Ext [] w w'):HeapOk C h r w':=by
 refine ⟨k.ext.quiet e,k.agree,k.rol,k.len,fun i ch B f hi hr=>(k.chunks i ch B f hi hr).extm e (fun _=>by simp),fun i B f hro hr=>Nat.lt_of_lt_of_le (k.lt i B f hro hr) e.size,k.own,k.ros,k.dead,k.apart,fun i m B f ho hi hr=>(k.maps i m B f ho hi hr).block (e.block B (k.lt i B f ho hr) (by simp)),fun i w1 ms hi=>let ⟨p1,p2,p3⟩:=k.past i w1 ms hi; ⟨p1.quiet e,p2,p3⟩⟩
theorem HeapOk.chunk (k:HeapOk C h r w) {i B f:Nat} (hr:r[i]?=some (B,f)):At (Nat.ble C.ro i) r w B f (flat (getH h i)):=by
 have hi:i<h.length:=by
  rw [← k.len]
  rcases Nat.lt_or_ge i r.length with h|h
  ·exact h
  ·rw [List.getElem?_eq_none h] at hr; cases hr
 rw [getH_eq,List.getElem?_eq_getElem hi]
 exact k.chunks i _ B f (List.getElem?_eq_getElem hi) hr
theorem HeapOk.still (k:HeapOk C h r w) {i B f:Nat} (hi:¬ C.ro≤i) (hr:r[i]?=some (B,f)) (hne:flat (getH h i)≠[]) {w':World} (e:Ext C.m C.w0 w'):w'.heap[B]?=w.heap[B]?:=by
 have hil:i<h.length:=by
  rw [← k.len]
  rcases Nat.lt_or_ge i r.length with h|h
  ·exact h
  ·rw [List.getElem?_eq_none h] at hr; cases hr
 have hch:h[i]?=some (getH h i):=by rw [getH_eq,List.getElem?_eq_getElem hil]; rfl
 have hl:C.live i:=Classical.byContradiction fun hl=>hne (k.dead i _ (by omega) hl hch)
 obtain ⟨a1,a2⟩:=k.ros i B f (by omega) hl hr
 rw [e.block B a2 a1,k.ext.block B a2 a1]
theorem HeapOk.near (k:HeapOk C h r w) {i B f:Nat} (hr:r[i]?=some (B,f)) {l:List Nat} {w':World} (e:Near C h r l w w') (hi:i∈l) (hne:flat (getH h i)≠[]) (hB:B<w.heap.size):w'.heap[B]?=w.heap[B]?:=by
 by_cases ho:C.ro≤i
 ·exact e.2.1 i hi ho B f hr hB
 ·exact k.still ho hr hne e.1
theorem At.sub {z:Bool} {l l':List SC} {B off d:Nat} (h:At z r w B off l) (hs:∀ (j:Nat) (x:SC),l'[j]?=some x→l[d+j]?=some x):At z r w B (off+d) l':=fun j x e=>by
 have:=h _ x (hs j x e)
 rwa [show off+(d+j)=off+d+j by omega] at this
theorem ofSegs_spec {g:Bool} {l:List Seg} {k:SV→Prop} (h:ofSegs g l k):(g=true∧k (.a (.agg l)))∨(g=false∧∃ x,l=[.one x]∧k (.a (.c x))):=by
 unfold ofSegs at h
 split at h
 ·exact .inl ⟨rfl,h⟩
 ·split at h
  ·exact .inr ⟨rfl,_,rfl,h⟩
  ·exact h.elim
theorem add_none (B off n:Nat):(⟨B,off,none⟩:Addr).add n=⟨B,off+n,none⟩:=by unfold Addr.add; split <;> simp_all
theorem exec_v {P:Program} {s:Sem Value} {v:Value} {w w':World} (h:s.run P w=.ok v w'):(do pure (Next.value (← s)):Sem Next).run P w=.ok (.value v) w':=by
 rw [Sem.run_bind,h]; rfl
theorem load_core {P:Program} {u:TypeId} {d:TD} (hd:TdOk P u d) {l:List Seg} {k:SV→Prop} (hk:ofSegs d.isAgg l k) (hl:(flat l).length=d.size) {B off:Nat} {vs:List Value} (hv:IsL r (flat l) vs)
  {S:World→Prop} (hc:∀ w',S w'→∀ (j:Nat) v,vs[j]?=some v→w'.cell? ⟨B,off+j,none⟩=some v) :
  ∃ v x,k x∧x.Is r v∧∀ w',S w'→(Instr.loadAt u (.pointer (some ⟨B,off,none⟩))).run P w'=.ok v w':=by
 rcases ofSegs_spec hk with ⟨hg,hk⟩|⟨hg,x,rfl,hk⟩
 ·refine ⟨_,_,hk,⟨vs,rfl,hv⟩,fun w' hs=>?_⟩
  have h1:=run_loadCells_list (P:=P) w' ⟨B,off,none⟩ vs (fun j v e=>by rw [add_none]; exact hc w' hs j v e)
  rw [← hv.1,hl] at h1
  simp [Instr.loadAt,Instr.sureAddr,loadVar,hd.isAgg,hg,hd.sizeOf,h1,pure]
 ·obtain ⟨v,e,hi⟩:=hv.2 0 x rfl
  refine ⟨v,.a (.c x),by assumption,hi,fun w' hs=>?_⟩
  have h1:=hc w' hs 0 v e
  simp [Instr.loadAt,Instr.sureAddr,loadVar,hd.isAgg,hg,Go.load,Sem.run,pure] at h1 ⊢
  simp [h1]
theorem part_core {P:Program} {u:TypeId} {d:TD} (hd:TdOk P u d) {l l':List Seg} {k:SV→Prop} (hk:ofSegs d.isAgg l' k) (hl:(flat l').length=d.size) {vs:List Value} (hv:IsL r (flat l) vs) {off:Nat}
  (hs:∀ (j:Nat) (x:SC),(flat l')[j]?=some x→(flat l)[off+j]?=some x) :
  ∃ v x,k x∧x.Is r v∧∀ w',(part u vs.toArray off).run P w'=.ok v w':=by
 rcases ofSegs_spec hk with ⟨hg,hk⟩|⟨hg,x,rfl,hk⟩
 ·have hlen:∀ j,j<d.size→∃ v,vs[off+j]?=some v:=fun j hj=>by
   obtain ⟨v,e,_⟩:=hv.2 _ _ (hs j _ (List.getElem?_eq_getElem (by rw [hl]; exact hj)))
   exact ⟨v,e⟩
  have hb:d.size=0∨off+d.size≤vs.length:=by
   rcases Nat.eq_zero_or_pos d.size with h0|h0
   ·exact .inl h0
   ·obtain ⟨v,e⟩:=hlen (d.size-1) (by omega)
    rcases Nat.lt_or_ge (off+(d.size-1)) vs.length with h|h
    ·exact .inr (by omega)
    ·rw [List.getElem?_eq_none h] at e; cases e
  refine ⟨_,_,hk,⟨(vs.drop off).take d.size,rfl,?_,fun j x e=>?_⟩,fun w'=>?_⟩
  ·rw [hl]; simp
   rcases hb with hb|hb <;> omega
  ·have hj:j<d.size:=by
    rw [← hl]
    rcases Nat.lt_or_ge j (flat l').length with h|h
    ·exact h
    ·rw [List.getElem?_eq_none h] at e; cases e
   obtain ⟨v,e1,e2⟩:=hv.2 _ _ (hs j x e)
   refine ⟨v,?_,e2⟩
   rw [List.getElem?_take,if_pos hj,List.getElem?_drop,e1]
  ·simp [part,hd.isAgg,hg,hd.sizeOf,pure]
 ·obtain ⟨v,e,hi⟩:=hv.2 _ x (hs 0 x rfl)
  refine ⟨v,.a (.c x),by assumption,hi,fun w'=>?_⟩
  simp at e
  simp [part,hd.isAgg,hg,e,pure]
end
end Sx
end
section
namespace Sx
open Go.RowKit

def RdOk (C:Cx) (t:List SV) (h:List (List Seg)) (op:Op) (a:Act) (w:World) (r:Rho) (k:SV→Prop):Prop :=
 ∃ v x,k x∧x.Is r v∧∀ (o:Oper) (w':World),o.op=op→(pureOp op=false→Near C h r (seen t op) w w')→(execOp a.eval o).run C.P w'=.ok (.value v) w'
section
variable {C : Cx} {t : List SV} {h : List (List Seg)} {r : Rho} {a : Act} {w : World} {k : SV → Prop}
theorem rd_move (ok:Ok C ⟨t,h⟩ r a w) {x:Operand} (hk:k (ev t x)):RdOk C t h (.move x) a w r k:=⟨_,_,hk,ok.ev x,fun o w' ho _=>by simp only [execOp,ho]; rfl⟩
theorem rd_assign (ok:Ok C ⟨t,h⟩ r a w) {x:Operand} (hk:k (ev t x)):RdOk C t h (.assign x) a w r k:=⟨_,_,hk,ok.ev x,fun o w' ho _=>by simp only [execOp,ho]; rfl⟩
theorem ev_c (ok:Ok C ⟨t,h⟩ r a w) {x:Operand} {K:SC→Prop} (h:asC (ev t x) K):∃ y,K y∧y.Is r (a.eval x)∧ev t x=.a (.c y):=by
 obtain ⟨y,e,hk⟩:=asC_spec h
 have:=ok.ev x
 simp only [e] at this
 exact ⟨y,hk,this,e⟩
theorem rd_pick (ok:Ok C ⟨t,h⟩ r a w) {c x y:Operand} (hk:stepR C (.pick c x y) t h k):RdOk C t h (.pick c x y) a w r k:=by
 simp only [stepR] at hk
 obtain ⟨b,hk,hb,_⟩:=ev_c ok hk
 cases b <;> try exact hk.elim
 rename_i v _
 have hb:a.eval c=.bool v:=hb
 cases v
 ·exact ⟨_,_,hk.2 rfl,ok.ev y,fun o w' ho _=>by simp only [execOp,ho,hb]; rfl⟩
 ·exact ⟨_,_,hk.1 rfl,ok.ev x,fun o w' ho _=>by simp only [execOp,ho,hb]; rfl⟩
theorem rd_nilCheck (ok:Ok C ⟨t,h⟩ r a w) {x:Operand} (hk:stepR C (.nilCheck x) t h k):RdOk C t h (.nilCheck x) a w r k:=by
 simp only [stepR] at hk
 obtain ⟨y,hk,hy,_⟩:=ev_c ok hk
 split at hk
 ·have hy':=hy
  obtain ⟨B,f,_,e⟩:=hy'
  exact ⟨_,_,hk,hy,fun o w' ho _=>by simp only [execOp,ho,e]; rfl⟩
 ·have e:a.eval x=_:=hy
  exact ⟨_,_,hk,hy,fun o w' ho _=>by simp only [execOp,ho,e]; rfl⟩
 ·have e:a.eval x=_:=hy
  exact ⟨_,_,hk,hy,fun o w' ho _=>by simp only [execOp,ho,e]; rfl⟩
 ·exact hk.elim
theorem amt_spec (ok:Ok C ⟨t,h⟩ r a w) {y:Operand} {K:Nat→Prop} (h:amt t y K):∃ n,K n∧∃ kk,a.eval y=.int kk (n:Int):=by
 unfold amt at h
 split at h
 ·exact ⟨_,h,_,rfl⟩
 ·obtain ⟨z,hz,hi,_⟩:=ev_c ok h
  obtain ⟨n,hn,e⟩:=amount_spec hz
  exact ⟨n,hn,e _ _ hi⟩
def numOf:SC→Int
 | .int _ n=>n
 | .w8 x=>x.toNat
 | .w16 x=>x.toNat
 | .w32 x=>x.toNat
 | .w64 x=>x.toNat
 | _=>0
theorem num_is {kk:IntKind} {x:SC} (hx:isNum kk x=true) {v:Value} (h:x.Is r v):v=.int kk (numOf x):=by
 unfold isNum at hx
 split at hx <;> first|exact h|cases hx
def numBack (kk:IntKind) (n:Int):SC:=match kk with
 | .u8=>.w8 (BitVec.ofInt 8 n)
 | .u16=>.w16 (BitVec.ofInt 16 n)
 | .u32=>.w32 (BitVec.ofInt 32 n)
 | .u64=>.w64 (BitVec.ofInt 64 n)
 | _=>.int .i64 n
theorem num_back {kk:IntKind} {x:SC} (hx:isNum kk x=true):x=numBack kk (numOf x):=by
 unfold isNum at hx
 split at hx <;> first|(cases hx; done)|simp [numOf,numBack]
theorem num_inj {kk:IntKind} {x y:SC} (hx:isNum kk x=true) (hy:isNum kk y=true):(numOf x=numOf y) ↔ x=y :=
 ⟨fun h=>by rw [num_back hx,num_back hy,h],fun h=>by rw [h]⟩
theorem run_equalIn_nums {P:Program} (d:Nat) (t e:TypeId) (n:Nat) {kk:IntKind} {de:TD} (hde:TdOk P e de) (hag:de.isAgg=false) (h1:de.size=1) (ht:P.underlying t=some (.array n e)) (he:P.underlying e=some (.int kk)) (w:World)
  (xs ys:List Int) (hx:xs.length=n) (hy:ys.length=n) :
  (Op.equalIn (d+2) t (.agg (xs.map (Value.int kk)).toArray) (.agg (ys.map (Value.int kk)).toArray)).run P w=.ok ((List.range n).all fun i=>xs.getD i 0 == ys.getD i 0) w:=by
 rw [List.range_eq_range',Op.equalIn]
 simp only [Sem.run_bind,run_underlying ht,Result.andThen_ok,hde.sizeOf,h1,Std.Legacy.Range.forIn_eq_forIn_range',Std.Legacy.Range.size,Nat.sub_zero,Nat.add_sub_cancel,Nat.div_one]
 have hl:∀ i∈List.range' 0 n 1,i<n:=fun i hi=>by simpa using (List.mem_range'_1.1 hi).2
 generalize List.range' 0 n 1=l at hl ⊢
 induction l with
 | nil=>simp
 | cons i l ih =>
  have hi:i<n:=hl i (by simp)
  have px:(part e (xs.map (Value.int kk)).toArray (i*1)).run P w=.ok (Value.int kk (xs.getD i 0)) w:=by
   simp [part,hde.isAgg,hag,List.getD,List.getElem?_eq_getElem (show i<xs.length by omega)]
  have py:(part e (ys.map (Value.int kk)).toArray (i*1)).run P w=.ok (Value.int kk (ys.getD i 0)) w:=by
   simp [part,hde.isAgg,hag,List.getD,List.getElem?_eq_getElem (show i<ys.length by omega)]
  have pe:(Op.equalIn (d+1) e (Value.int kk (xs.getD i 0)) (Value.int kk (ys.getD i 0))).run P w=.ok (xs.getD i 0 == ys.getD i 0) w :=
   run_equalIn_int w d e kk kk _ _ he
  simp only [List.forIn_cons,Sem.run_bind,px,py,pe,Result.andThen_ok,List.all_cons]
  cases hb:(xs.getD i 0 == ys.getD i 0)
  ·simp
  ·simp only [Bool.not_true,Bool.false_eq_true,if_false,Sem.run_pure,Result.andThen_ok,Bool.true_and]
   exact ih fun j hj=>hl j (by simp [hj])
theorem run_equalIn_same {P:Program} (d:Nat) (t e:TypeId) (n:Nat) {de:TD} (hde:TdOk P e de) (hag:de.isAgg=false) (h1:de.size=1) (ht:P.underlying t=some (.array n e)) (w:World)
  (vs:List Value) (hx:vs.length=n) (he:∀ v∈vs,(Op.equalIn (d+1) e v v).run P w=.ok true w) :
  (Op.equalIn (d+2) t (.agg vs.toArray) (.agg vs.toArray)).run P w=.ok true w:=by
 rw [Op.equalIn]
 simp only [Sem.run_bind,run_underlying ht,Result.andThen_ok,hde.sizeOf,h1,Std.Legacy.Range.forIn_eq_forIn_range',Std.Legacy.Range.size,Nat.sub_zero,Nat.add_sub_cancel,Nat.div_one]
 have hl:∀ i∈List.range' 0 n 1,i<n:=fun i hi=>by simpa using (List.mem_range'_1.1 hi).2
 generalize List.range' 0 n 1=l at hl ⊢
 induction l with
 | nil=>simp
 | cons i l ih =>
  have hi:i<n:=hl i (by simp)
  have hv:i<vs.length:=by omega
  have px:(part e vs.toArray (i*1)).run P w=.ok vs[i] w:=by
   simp [part,hde.isAgg,hag,List.getElem?_eq_getElem hv]
  have pe:=he vs[i] (List.getElem_mem hv)
  simp only [List.forIn_cons,Sem.run_bind,px,pe,Result.andThen_ok]
  simp only [Bool.not_true,Bool.false_eq_true,if_false,Sem.run_pure,Result.andThen_ok]
  exact ih fun j hj=>hl j (by simp [hj])
theorem guard_strs {P:Program} {op:BinOp} {t e:TypeId} {n:Nat} (ht:P.underlying t=some (.array n e)) (he:P.underlying e=some .string) {X Y:Operand} {p q:Array Value} (w:World):(eqGuard op t X Y (.agg p) (.agg q)).run P w=.ok () w:=by
 have hd:P.depth=(2*(P.types.size+Made.depth))+1+1:=rfl
 have h1:P.eqGuardType P.depth t=false:=by rw [hd,Program.eqGuardType,ht]; simp only [Program.eqGuardType,he]
 unfold eqGuard
 cases op <;> try rfl
 all_goals simp [h1]
theorem guard_nums {P:Program} {op:BinOp} {t e:TypeId} {n:Nat} {kk:IntKind} (ht:P.underlying t=some (.array n e)) (he:P.underlying e=some (.int kk)) {X Y:Operand} {p q:Array Value} (w:World):(eqGuard op t X Y (.agg p) (.agg q)).run P w=.ok () w:=by
 have hd:P.depth=(2*(P.types.size+Made.depth))+1+1:=rfl
 have h1:P.eqGuardType P.depth t=false:=by rw [hd,Program.eqGuardType,ht]; simp only [Program.eqGuardType,he]
 unfold eqGuard
 cases op <;> try rfl
 all_goals simp [h1]
theorem eqFields_true {P:Program} {xs ys:Array Value} (d:Nat):∀ (fs:List Field) (w:World),(∀ f∈fs,∃ a b:Value,(∀ w,(part f.type xs f.offset).run P w=.ok a w)∧(∀ w,(part f.type ys f.offset).run P w=.ok b w)∧∀ w,(Op.equalIn d f.type a b).run P w=.ok true w) →
  (Op.eqFields d xs ys fs).run P w=.ok true w
 | [],w,_=>by simp [Op.eqFields]
 | f::fs,w,h=>by
  obtain ⟨a,b,h1,h2,h3⟩:=h f (by simp)
  have ih:=eqFields_true d fs w (fun g hg=>h g (by simp [hg]))
  simp only [Op.eqFields,Sem.run_ite]
  split
  ·simp only [Sem.run_bind,h1,h2,h3,Result.andThen_ok]
   simpa using ih
  ·exact ih
theorem nthC_some {kk:IntKind}:∀ {l:List SC} {i:Nat},isNum kk (nthC l i)=true→l[i]?=some (nthC l i)
 | [],i,h=>by simp [nthC,isNum] at h
 | x::l,0,h=>rfl
 | x::l,i+1,h=>by
  simp only [nthC] at h
  simp only [List.getElem?_cons_succ,nthC]
  exact nthC_some h
theorem part_nums {P:Program} {t e:TypeId} {d:TD} {n o:Nat} {kk:IntKind} {l:List SC} {vs:List Value} (hd:TdOk P t d) (hk:d.k=.array n e) (hs:d.size=n) (hv:IsL r l vs) (hn:∀ j,j<n→isNum kk (nthC l (o+j))=true) (w:World) :
  (part t vs.toArray o).run P w=.ok (.agg (((List.range n).map fun j=>numOf (nthC l (o+j))).map (Value.int kk)).toArray) w:=by
 have ha:d.isAgg=true:=by unfold TD.isAgg; rw [hk]
 have hlen:∀ j,j<n→o+j<vs.length:=fun j hj=>by
  have:=nthC_some (hn j hj)
  rw [← hv.1]
  exact (List.getElem?_eq_some_iff.1 this).1
 simp only [part,Sem.run_bind,hd.isAgg,ha,Result.andThen_ok,if_true,hd.sizeOf,hs,Sem.run_pure]
 congr 2
 apply Array.ext'
 simp only [Array.toList_extract,List.extract_eq_take_drop,Nat.add_sub_cancel_left]
 apply List.ext_getElem?
 intro j
 by_cases hj:j<n
 ·obtain ⟨v,e1,hi⟩:=hv.2 (o+j) _ (nthC_some (hn j hj))
  rw [List.getElem?_take,if_pos hj,List.getElem?_drop,e1,num_is (hn j hj) hi]
  simp [hj]
 ·rw [List.getElem?_take,if_neg hj]
  simp [hj]
theorem run_sameAddr_off {P:Program} {w:World} {a b:Addr} {ca cb:Array Value} {ta tb:TypeId} {la lb:Nat} (hne:a≠b) (ha:w.heap[a.block]?=some (.cells ca ta (la,la))) (hb:w.heap[b.block]?=some (.cells cb tb (lb,lb))) :
  (sameAddr a b).run P w=.ok false w:=by
 have off:∀ n l:Nat,(decide (l≤n) && decide (n<l))=false:=fun n l=>by
  rw [Bool.and_eq_false_iff]; simp only [decide_eq_false_iff_not]; omega
 by_cases hbl:a.block=b.block
 ·simp [sameAddr,hbl,hne]
 ·simp [sameAddr,hbl,World.frozen?,ha,hb,noView,viewAt,World.shape?,mayBeOne,stringish,off]
theorem run_eql_ptr_off {P:Program} (w:World) {tp te:TypeId} {j:TypeInfo} {a b:Addr} {ca cb:Array Value} {ta tb:TypeId} {la lb:Nat} (hp:P.underlying tp=some (.pointer te)) (hte:P.info? te=some j) (hsz:j.size≠0)
  (hne:a≠b) (ha:w.heap[a.block]?=some (.cells ca ta (la,la))) (hb:w.heap[b.block]?=some (.cells cb tb (lb,lb))) :
  (binOp .eql tp (.pointer (some a)) (.pointer (some b))).run P w=.ok (.bool false) w:=by
 have h:∀ d:Nat,(Op.equalIn (d+1) tp (.pointer (some a)) (.pointer (some b))).run P w=.ok false w:=fun d=>by
  simp [Op.equalIn,run_underlying hp,sizeOf,typeInfo,hte,hsz,run_sameAddr_off hne ha hb]
 simp only [binOp]
 simp [Op.equal,Op.maxDepth,h 9999]
theorem rd_binOp (hT:AllT C.P C.T) (ok:Ok C ⟨t,h⟩ r a w) {op:BinOp} {u v:TypeId} {x y:Operand} (hk:stepR C (.binOp op u x y v) t h k):RdOk C t h (.binOp op u x y v) a w r k:=by
 have shf:∀ {left:Bool},(asC (ev t x) fun p=>amt t y fun n=>sh left p n fun v=>k (.a (.c v)))→RdOk C t h (.binOp (if left then .shl else .shr) u x y v) a w r k:=by
  intro left hk
  obtain ⟨p,hk,hp,_⟩:=ev_c ok hk
  obtain ⟨n,hk,kk,hn⟩:=amt_spec ok hk
  obtain ⟨z,q,h1,h2,h3⟩:=sh_spec (P:=C.P) u hk hp
  refine ⟨q,_,h1,h2 r,fun o w' ho _=>?_⟩
  simp only [execOp,ho]
  refine exec_v ?_
  have:=h3 kk w'
  rw [← hn] at this
  cases left <;> exact this
 have arr:∀ {d:TD} {n e:Nat},TdOk C.P u d→arrS C op n e (ev t x) (ev t y) k→d.k=.array n e→RdOk C t h (.binOp op u x y v) a w r k:=by
  intro d n e hd hk hkd
  have hkk:=hd.kind
  rw [hkd] at hkk
  simp only [TK.Ok] at hkk
  unfold arrS at hk
  obtain ⟨de,hde,hk⟩:=td_spec hT hk
  split at hk
  case h_1 kk hk1 hag =>
   have he:=hde.kind
   rw [hk1] at he
   simp only [TK.Ok] at he
   have hsz:de.size=1:=by
    have hs:=hde.sing
    rw [hag] at hs
    simp only [Bool.false_or] at hs
    split at hs
    ·rename_i hz; rw [← hde.len,hz]; rfl
    ·cases hs
   have hx:=ok.ev x
   have hy:=ok.ev y
   split at hk <;> try exact hk.elim
   rename_i n1 f n2 g e1 e2
   obtain ⟨⟨hn1,hn2,hf,hg⟩,hk⟩:=hk
   rw [hn1] at e1
   rw [hn2] at e2
   simp only [e1] at hx
   simp only [e2] at hy
   obtain ⟨vs,ev1,hvs⟩:=hx
   obtain ⟨us,ev2,hus⟩:=hy
   have lst:∀ {f:Nat→SC} {vs:List Value},(∀ j,j<n→isNum kk (f j)=true)→IsL r (flat [Seg.row n f]) vs→vs=((List.range n).map fun j=>numOf (f j)).map (Value.int kk):=by
    intro f vs hf hv
    apply List.ext_getElem?
    intro j
    by_cases hj:j<n
    ·obtain ⟨v,e,hi⟩:=hv.2 j (f j) (by rw [flat_row_lt _ _ _ hj])
     rw [e,num_is (hf j hj) hi]
     simp [hj]
    ·have hl:vs.length=n:=by rw [← hv.1]; simp [flat]
     rw [List.getElem?_eq_none (by omega)]
     simp [hj]
   have l1:=lst hf hvs
   have l2:=lst hg hus
   have hrun:=fun w=>run_equalIn_nums (P:=C.P) 9998 u e n hde hag hsz hkk he w ((List.range n).map fun j=>numOf (f j)) ((List.range n).map fun j=>numOf (g j)) (by simp) (by simp)
   have hb:((List.range n).all fun i=>((List.range n).map fun j=>numOf (f j)).getD i 0 == ((List.range n).map fun j=>numOf (g j)).getD i 0)=true ↔ ∀ j,j<n→f j=g j:=by
    simp only [List.all_eq_true,List.mem_range,beq_iff_eq]
    refine ⟨fun h j hj=>?_,fun h j hj=>?_⟩
    ·have:=h j hj
     simp [hj] at this
     exact (num_inj (hf j hj) (hg j hj)).1 this
    ·simp [hj,h j hj]
   have hk:=hk _ hb
   have run:∀ {z q:Value},(∀ w,(binOp op u (a.eval x) (a.eval y)).run C.P w=.ok q w)→∀ (o:Oper) (w':World),o.op=.binOp op u x y v→(execOp a.eval o).run C.P w'=.ok (.value q) w':=by
    intro z q h o w' ho
    simp only [execOp,ho]
    refine exec_v ?_
    rw [Sem.run_bind,ev1,ev2,guard_nums hkk he,← ev1,← ev2]
    exact h w'
   cases op <;> try exact hk.elim
   case eql =>
    refine ⟨_,_,hk,rfl,fun o w' ho _=>run (z:=.nilFunc) (fun w=>?_) o w' ho⟩
    rw [ev1,ev2,l1,l2,run_eql_struct,hrun]; rfl
   case neq =>
    refine ⟨_,_,hk,rfl,fun o w' ho _=>run (z:=.nilFunc) (fun w=>?_) o w' ho⟩
    rw [ev1,ev2,l1,l2,run_neq_struct,hrun]; rfl
  case h_2 hk1 hag =>
   have he:=hde.kind
   rw [hk1] at he
   simp only [TK.Ok] at he
   have hsz:de.size=1:=by
    have hs:=hde.sing
    rw [hag] at hs
    simp only [Bool.false_or] at hs
    split at hs
    ·rename_i hz; rw [← hde.len,hz]; rfl
    ·cases hs
   have hx:=ok.ev x
   have hy:=ok.ev y
   split at hk <;> try exact hk.elim
   rename_i n1 f n2 g e1 e2
   obtain ⟨⟨hn1,hn2,hf⟩,hk⟩:=hk
   rw [hn1] at e1
   rw [hn2] at e2
   simp only [e1] at hx
   simp only [e2] at hy
   obtain ⟨vs,ev1,hvs⟩:=hx
   obtain ⟨us,ev2,hus⟩:=hy
   have lv:vs.length=n:=by rw [← hvs.1]; simp [flat]
   have lu:us.length=n:=by rw [← hus.1]; simp [flat]
   have cell:∀ j,j<n→∃ s:List UInt8,vs[j]?=some (.string ⟨s.toArray⟩)∧us[j]?=some (.string ⟨s.toArray⟩):=by
    intro j hj
    obtain ⟨s,h1,h2⟩:=hf j hj
    obtain ⟨v,e,hi⟩:=hvs.2 j (f j) (by rw [flat_row_lt _ _ _ hj])
    obtain ⟨v',e',hi'⟩:=hus.2 j (g j) (by rw [flat_row_lt _ _ _ hj])
    rw [h1] at hi
    rw [h2] at hi'
    exact ⟨s,by rw [e]; exact congrArg some hi,by rw [e']; exact congrArg some hi'⟩
   obtain rfl:us=vs:=List.ext_getElem? fun j=>by
    by_cases hj:j<n
    ·obtain ⟨s,h1,h2⟩:=cell j hj
     rw [h1,h2]
    ·rw [List.getElem?_eq_none (by omega),List.getElem?_eq_none (by omega)]
   have hrun:∀ w,(Op.equalIn 10000 u (.agg us.toArray) (.agg us.toArray)).run C.P w=.ok true w:=fun w=>run_equalIn_same (P:=C.P) 9998 u e n hde hag hsz hkk w us lu fun v hv=>by
    obtain ⟨j,hj,rfl⟩:=List.getElem_of_mem hv
    obtain ⟨s,h1,_⟩:=cell j (by omega)
    rw [List.getElem?_eq_getElem hj] at h1
    injection h1 with h1
    rw [h1,run_equalIn_string (P:=C.P) _ _ e _ _ he]
    simp
   have run:∀ {q:Value},(∀ w,(binOp op u (a.eval x) (a.eval y)).run C.P w=.ok q w)→∀ (o:Oper) (w':World),o.op=.binOp op u x y v→(execOp a.eval o).run C.P w'=.ok (.value q) w':=by
    intro q h o w' ho
    simp only [execOp,ho]
    refine exec_v ?_
    rw [Sem.run_bind,ev1,ev2,guard_strs hkk he]
    have:=h w'
    rw [ev1,ev2] at this
    exact this
   cases op <;> try exact hk.elim
   case eql =>
    refine ⟨_,_,hk,rfl,fun o w' ho _=>run (fun w=>?_) o w' ho⟩
    rw [ev1,ev2,run_eql_struct,hrun]; rfl
   case neq =>
    refine ⟨_,_,hk,rfl,fun o w' ho _=>run (fun w=>?_) o w' ho⟩
    rw [ev1,ev2,run_neq_struct,hrun]; rfl
  case h_3=>exact hk.elim
 have str:∀ {d:TD} {fs:List (Nat × Nat)},TdOk C.P u d→strS C op u fs (ev t x) (ev t y) k→d.k=.struct fs→RdOk C t h (.binOp op u x y v) a w r k:=by
  intro d fs hd hk hkd
  have hkk:=hd.kind
  rw [hkd] at hkk
  simp only [TK.Ok] at hkk
  unfold strS at hk
  have hx:=ok.ev x
  have hy:=ok.ev y
  split at hk <;> try exact hk.elim
  rename_i l1 l2 e1 e2
  obtain ⟨⟨hst,hgt,hf⟩,hk⟩:=hk
  simp only [e1] at hx
  simp only [e2] at hy
  obtain ⟨vs,ev1,hvs⟩:=hx
  obtain ⟨us,ev2,hus⟩:=hy
  obtain ⟨gs,hgs,hfs⟩:∃ gs,C.P.underlying u=some (.struct gs)∧fs=gs.toList.map fun f=>(f.type,f.offset):=by
   unfold fieldsOf at hkk
   split at hkk
   ·rename_i gs h1
    exact ⟨gs,h1,by injection hkk with hkk; exact hkk.symm⟩
   ·cases hkk
  have hu:C.P.underlying u=some (.struct (C.P.fieldsOf u)):=by simp [Program.fieldsOf,hgs]
  have hug:(C.P.fieldsOf u).toList=gs.toList:=by simp [Program.fieldsOf,hgs]
  have hall:∀ (L:List Field),strOk C (nthC (flat l1)) (nthC (flat l2)) (L.map fun f=>(f.type,f.offset))→∀ f∈L,∃ p q:Value,(∀ w,(part f.type vs.toArray f.offset).run C.P w=.ok p w)∧(∀ w,(part f.type us.toArray f.offset).run C.P w=.ok q w)∧∀ w,(Op.equalIn 9999 f.type p q).run C.P w=.ok true w:=by
   intro L
   induction L with
   | nil=>intro _ f hf; cases hf
   | cons g L ih =>
    intro hL f hf
    simp only [List.map_cons,strOk] at hL
    obtain ⟨hg,hL⟩:=hL
    cases hf with
    | tail _ hf=>exact ih hL f hf
    | head =>
     obtain ⟨d',hd',hg⟩:=td_spec hT hg
     split at hg <;> try exact hg.elim
     rename_i n e hk'
     obtain ⟨de,hde,hg⟩:=td_spec hT hg
     split at hg <;> try exact hg.elim
     rename_i kk hk1 hag
     obtain ⟨hs,hg⟩:=hg
     have hkind:=hd'.kind
     rw [hk'] at hkind
     simp only [TK.Ok] at hkind
     have he:=hde.kind
     rw [hk1] at he
     simp only [TK.Ok] at he
     have hsz:de.size=1:=by
      have hs:=hde.sing
      rw [hag] at hs
      simp only [Bool.false_or] at hs
      split at hs
      ·rename_i hz; rw [← hde.len,hz]; rfl
      ·cases hs
     have h1:=fun w=>part_nums (P:=C.P) (o:=g.offset) hd' hk' hs hvs (fun j hj=>(hg j hj).1) w
     have h2:=fun w=>part_nums (P:=C.P) (o:=g.offset) hd' hk' hs hus (fun j hj=>by rw [← (hg j hj).2]; exact (hg j hj).1) w
     refine ⟨_,_,h1,h2,fun w=>?_⟩
     rw [run_equalIn_nums (P:=C.P) 9997 g.type e n hde hag hsz hkind he w _ _ (by simp) (by simp)]
     congr 1
     simp only [List.all_eq_true,List.mem_range,beq_iff_eq]
     intro j hj
     have:=(hg j hj).2
     simp [hj,this]
  have heq:=fun w=>eqFields_true (P:=C.P) 9999 gs.toList w (hall gs.toList (by rw [← hfs]; exact hf))
  have hrun:∀ w,(Op.equalIn 10000 u (.agg vs.toArray) (.agg us.toArray)).run C.P w=.ok true w:=fun w=>by
   rw [run_equalIn_struct w 9999 u _ _ hu hst,hug]; exact heq w
  have run:∀ {q:Value},(∀ w,(binOp op u (a.eval x) (a.eval y)).run C.P w=.ok q w)→∀ (o:Oper) (w':World),o.op=.binOp op u x y v→(execOp a.eval o).run C.P w'=.ok (.value q) w':=by
   intro q h o w' ho
   simp only [execOp,ho]
   refine exec_v ?_
   rw [Sem.run_bind,ev1,ev2,run_eqGuard_agg _ _ _ _ _ _ _ hgt,← ev1,← ev2]
   exact h w'
  cases op <;> try exact hk.elim
  case eql =>
   refine ⟨_,_,hk,rfl,fun o w' ho _=>run (fun w=>?_) o w' ho⟩
   rw [ev1,ev2,run_eql_struct,hrun]; rfl
  case neq =>
   refine ⟨_,_,hk,rfl,fun o w' ho _=>run (fun w=>?_) o w' ho⟩
   rw [ev1,ev2,run_neq_struct,hrun]; rfl
 have ptr:∀ {d:TD} {e:Nat},TdOk C.P u d→ptrS C h op u e (isConst x || isConst y) (ev t x) (ev t y) k→d.k=.ptr e→RdOk C t h (.binOp op u x y v) a w r k:=by
  intro d e hd hk hkd
  have hkk:=hd.kind
  rw [hkd] at hkk
  have hkt:TK.Ok C.P u (.ptr e):=hkk
  simp only [TK.Ok] at hkk
  unfold ptrS at hk
  split at hk
  ·rename_i p q e1 e2
   have hx:=ok.ev x
   have hy:=ok.ev y
   simp only [e1] at hx
   simp only [e2] at hy
   have hx:a.eval x=.pointer (some p):=hx
   have hy:a.eval y=.pointer (some q):=hy
   cases op <;> try exact hk.elim
   obtain ⟨hm,hk⟩:=hk
   obtain ⟨de,hde,hk⟩:=td_spec hT hk
   split at hk
   ·exact hk.elim
   rename_i n hsz
   obtain ⟨j,hj,hjs⟩:∃ j,C.P.info? e=some j∧j.size=de.size:=by
    have:=hde.info
    cases hi:C.P.info? e with
    | none=>rw [hi] at this; simp at this
    | some j=>rw [hi] at this; simp at this; exact ⟨j,rfl,this.1⟩
   obtain ⟨hk1,hk2⟩:=hk
   by_cases hpq:p=q
   ·subst hpq
    refine ⟨.bool true,_,hk1 rfl,rfl,fun o w' ho _=>?_⟩
    simp only [execOp,ho]
    refine exec_v ?_
    rw [Sem.run_bind,hx,hy,eqGuard_ok (by simp)]
    exact run_eql_ptr_same w' p hkk hj
   ·obtain ⟨⟨i,W,ms,hi,hp,hq⟩,hk⟩:=hk2 hpq
    refine ⟨.bool false,_,hk,rfl,fun o w' ho hn=>?_⟩
    have hE:=(hn (by simp [pureOp,hm])).2.2 i W ms hi
    obtain ⟨_,p1,p2,cp,tp,lp,p3,p4⟩:=hp
    obtain ⟨_,q1,q2,cq,tq,lq,q3,q4⟩:=hq
    have hp':=(hE.block _ p1 p2).trans p3
    have hq':=(hE.block _ q1 q2).trans q3
    simp only [execOp,ho]
    refine exec_v ?_
    rw [Sem.run_bind,hx,hy,eqGuard_ok (by simp)]
    exact run_eql_ptr_off w' hkk hj (by omega) hpq hp' hq'
  ·obtain ⟨p,hk,hp,_⟩:=ev_c ok hk
   obtain ⟨q,hk,hq,_⟩:=ev_c ok hk
   obtain ⟨z,v,h1,h2,h3⟩:=bin_spec (P:=C.P) hkt hk hp hq
   refine ⟨v,_,h1,h2 r,fun o w' ho _=>?_⟩
   simp only [execOp,ho]
   exact exec_v (h3 w')
 have oth:(td C u fun d=>match d.k with
   | .array n e=>arrS C op n e (ev t x) (ev t y) k
   | .struct fs=>strS C op u fs (ev t x) (ev t y) k
   | .ptr e=>ptrS C h op u e (isConst x || isConst y) (ev t x) (ev t y) k
   | _=>asC (ev t x) fun p=>asC (ev t y) fun q=>bin op d.k (isConst x || isConst y) p q fun v=>k (.a (.c v)))→RdOk C t h (.binOp op u x y v) a w r k:=by
  intro hk
  obtain ⟨d,hd,hk⟩:=td_spec hT hk
  split at hk
  ·exact arr hd hk (by assumption)
  ·exact str hd hk (by assumption)
  ·exact ptr hd hk (by assumption)
  obtain ⟨p,hk,hp,_⟩:=ev_c ok hk
  obtain ⟨q,hk,hq,_⟩:=ev_c ok hk
  obtain ⟨z,v,h1,h2,h3⟩:=bin_spec (P:=C.P) hd.kind hk hp hq
  refine ⟨v,_,h1,h2 r,fun o w' ho _=>?_⟩
  simp only [execOp,ho]
  exact exec_v (h3 w')
 cases op
 case shl=>exact shf (left:=true) hk
 case shr=>exact shf (left:=false) hk
 all_goals exact oth hk
theorem rd_unOp {op:UnOp} {u:TypeId} {x:Operand} (ok:Ok C ⟨t,h⟩ r a w) (hk:stepR C (.unOp op u x) t h k):RdOk C t h (.unOp op u x) a w r k:=by
 obtain ⟨p,hk,hp,_⟩:=ev_c ok hk
 obtain ⟨z,v,h1,h2,h3⟩:=un_spec (P:=C.P) hk hp
 refine ⟨v,_,h1,h2 r,fun o w' ho _=>?_⟩
 simp only [execOp,ho]
 exact exec_v (h3 w')
theorem SC.is_eq {x:SC} {v:Value} (hp:x.plain=true) (h:x.Is r v):v=x.val:=by
 cases x <;> first|exact h|cases hp
theorem rd_iface {u:TypeId} {x:Operand} (hT:AllT C.P C.T) (ok:Ok C ⟨t,h⟩ r a w) (hk:stepR C (.makeInterface u x) t h k):RdOk C t h (.makeInterface u x) a w r k:=by
 unfold stepR at hk
 obtain ⟨d,hd,hk⟩:=td_spec hT hk
 have hk:(∃ v,C.P.underlying u=some v∧∀ ms,v≠.interface ms)∧asC (ev t x) fun a=>match a.plain with
   | true=>k (.a (.c (.ifc u a.val)))
   | false=>False:=by
  obtain ⟨v,hv,_⟩:=hd.und
  have hkd:=hd.kind
  cases e:d.k <;> rw [e] at hkd hk <;> simp only [TK.Ok] at hkd
  case ifc=>exact hk.elim
  case struct =>
   refine ⟨⟨v,hv,fun ms e=>?_⟩,hk⟩
   rw [hv,e] at hkd; cases hkd
  case fn =>
   refine ⟨⟨v,hv,fun ms e=>?_⟩,hk⟩
   rw [hv,e] at hkd; cases hkd
  case map =>
   obtain ⟨k',e',hkd,_⟩:=hkd
   exact ⟨⟨_,hkd,by simp⟩,hk⟩
  all_goals exact ⟨⟨_,hkd,by simp⟩,hk⟩
 obtain ⟨⟨v,hv,hne⟩,hk⟩:=hk
 obtain ⟨p,hk,hp,_⟩:=ev_c ok hk
 split at hk
 ·rename_i hpl
  refine ⟨_,_,hk,rfl,fun o w' ho _=>?_⟩
  simp only [execOp,ho]
  refine exec_v ?_
  simp only [Instr.makeInterface,Sem.run_bind,run_underlying hv,Result.andThen_ok,SC.is_eq hpl hp]
  cases v <;> first|rfl|exact absurd rfl (hne _)
 ·exact hk.elim
theorem rd_func {fn:Fn} {first cap:Array Operand} (ok:Ok C ⟨t,h⟩ r a w) (hk:stepR C (.makeFunc fn first cap) t h k):RdOk C t h (.makeFunc fn first cap) a w r k:=by
 cases fn <;> try exact hk.elim
 simp only [stepR] at hk
 split at hk
 ·rename_i h1 h2
  refine ⟨_,_,hk,rfl,fun o w' ho _=>?_⟩
  simp only [execOp,ho]
  have e1:first=#[]:=by simpa using h1
  have e2:cap=#[]:=by simpa using h2
  subst e1; subst e2
  simp [Instr.makeFunc,pure]
 ·rename_i x h1 h2
  obtain ⟨p,hk,hp,_⟩:=ev_c ok hk
  split at hk <;> try exact hk.elim
  obtain ⟨B,f',hr,hp⟩:=hp
  have e1:first=#[x]:=by rw [← Array.toList_inj]; exact h1
  have e2:cap=#[]:=by simpa using h2
  subst e1; subst e2
  refine ⟨_,_,hk,⟨B,f',hr,rfl⟩,fun o w' ho _=>?_⟩
  simp only [execOp,ho]
  refine exec_v ?_
  simp [Instr.makeFunc,pure,hp]
 ·rename_i x h1 h2
  obtain ⟨p,hk,hp,_⟩:=ev_c ok hk
  split at hk <;> try exact hk.elim
  obtain ⟨B,f',hr,hp⟩:=hp
  have e1:first=#[]:=by simpa using h1
  have e2:cap=#[x]:=by rw [← Array.toList_inj]; exact h2
  subst e1; subst e2
  refine ⟨_,_,hk,⟨B,f',hr,rfl⟩,fun o w' ho _=>?_⟩
  simp only [execOp,ho]
  refine exec_v ?_
  simp [Instr.makeFunc,pure,hp]
 ·rename_i x y h1 h2
  obtain ⟨p,hk,hp,_⟩:=ev_c ok hk
  split at hk <;> try exact hk.elim
  obtain ⟨B,f',hr,hp⟩:=hp
  obtain ⟨p2,hk,hp2,_⟩:=ev_c ok hk
  split at hk <;> try exact hk.elim
  obtain ⟨B2,f2,hr2,hp2⟩:=hp2
  have e1:first=#[]:=by simpa using h1
  have e2:cap=#[x,y]:=by rw [← Array.toList_inj]; exact h2
  subst e1; subst e2
  refine ⟨_,_,hk,⟨B,f',hr,B2,f2,hr2,rfl⟩,fun o w' ho _=>?_⟩
  simp only [execOp,ho]
  refine exec_v ?_
  simp [Instr.makeFunc,pure,hp,hp2]
 ·exact hk.elim
theorem cells_vals {W:World} {b:Addr} {l:List SC} (hc:∀ (j:Nat) (x:SC),l[j]?=some x→∃ v,W.cell? ⟨b.block,b.off+j,none⟩=some v∧x.Is [] v) :
  ∃ vs,IsL r l vs∧∀ (j:Nat) v,vs[j]?=some v→W.cell? ⟨b.block,b.off+j,none⟩=some v:=by
 refine ⟨(List.range l.length).map fun j=>(W.cell? ⟨b.block,b.off+j,none⟩).getD undef,⟨by simp,fun j x e=>?_⟩,fun j v e=>?_⟩
 ·obtain ⟨v,e1,e2⟩:=hc j x e
  have hj:j<l.length:=by
   rcases Nat.lt_or_ge j l.length with h|h
   ·exact h
   ·rw [List.getElem?_eq_none h] at e; cases e
  exact ⟨v,by simp [hj,e1],e2.mono (fun i x e=>by cases e)⟩
 ·have hj:j<l.length:=by
   rcases Nat.lt_or_ge j l.length with h|h
   ·exact h
   ·rw [List.getElem?_eq_none (by simpa using h)] at e; cases e
  obtain ⟨u,e1,_⟩:=hc j _ (List.getElem?_eq_getElem hj)
  simp [hj,e1] at e
  rw [← e]
  exact e1
theorem RawAt.spot {b:Addr} {l:List SC} (hr:RawAt C h b l):b=⟨b.block,b.off,none⟩:=by
 have:b.spot=none:=by
  rcases hr with hr|⟨_,_,_,_,hr⟩
  ·exact hr.1
  ·exact hr.1
 cases b; simp at this; subst this; rfl
theorem RawAt.vals {b:Addr} {l:List SC} (hr:RawAt C h b l):∃ vs,IsL r l vs∧∀ w',Ext C.m C.w0 w'→(∀ (i:Nat) (W:World) (ms:List Nat),h[i]?=some [.past W ms]→Ext ms W w')→∀ (j:Nat) v,vs[j]?=some v→w'.cell? ⟨b.block,b.off+j,none⟩=some v:=by
 rcases hr with ⟨hs,hlt,hm,hc⟩|⟨i,W,ms,hi,hs,hlt,hm,hc⟩
 ·obtain ⟨vs,h1,h2⟩:=cells_vals (r:=r) hc
  exact ⟨vs,h1,fun w' hx _ j v e=>hx.cell (p:=⟨b.block,b.off+j,none⟩) hm (h2 j v e)⟩
 ·obtain ⟨vs,h1,h2⟩:=cells_vals (r:=r) hc
  exact ⟨vs,h1,fun w' _ hp j v e=>(hp i W ms hi).cell (p:=⟨b.block,b.off+j,none⟩) hm (h2 j v e)⟩
theorem rd_load {u:TypeId} {x:Operand} (hT:AllT C.P C.T) (ok:Ok C ⟨t,h⟩ r a w) (hk:stepR C (.load u x) t h k):RdOk C t h (.load u x) a w r k:=by
 unfold stepR at hk
 obtain ⟨d,hd,hk⟩:=td_spec hT hk
 obtain ⟨p,hk,hp,he⟩:=ev_c ok hk
 split at hk
 ·rename_i i b o
  obtain ⟨B,f,hr,e⟩:=hp
  obtain ⟨l,hk,hl,hs⟩:=loadS_spec hk
  rw [tot_shape,hd.len] at hl
  have hA:=(ok.heap.chunk hr).sub (d:=b+o) hs
  obtain ⟨vs,hv,hc⟩:=hA.vals
  obtain ⟨v,z,h1,h2,h3⟩:=load_core (P:=C.P) hd hk hl (B:=B) (off:=f+(b+o)) hv (S:=fun w'=>Near C h r (seen t (.load u x)) w w') (fun w' hx j v e=>by
   have hcv:=hc j v e
   have hj:j<(flat l).length:=by
    rw [hv.1]
    rcases Nat.lt_or_ge j vs.length with h|h
    ·exact h
    ·rw [List.getElem?_eq_none h] at e; cases e
   rw [World.cell?_of_block (ok.heap.near hr hx (by simp [seen,he,nmV]) (fun hn=>by have:=hs j _ (List.getElem?_eq_getElem hj); rw [hn] at this; cases this) (cell_lt hcv))]
   exact hcv)
  refine ⟨v,z,h1,h2,fun o' w' ho hx=>?_⟩
  have hx:=hx rfl
  simp only [execOp,ho,e]
  exact exec_v (h3 w' hx)
 ·rename_i b
  have e:a.eval x=.pointer (some b):=hp
  obtain ⟨l,⟨hr,hl⟩,hk⟩:=hk
  have hsp:=hr.spot
  obtain ⟨vs,hv,hc⟩:=RawAt.vals (r:=r) hr
  obtain ⟨v,z,h1,h2,h3⟩:=load_core (P:=C.P) hd hk hl (B:=b.block) (off:=b.off) hv (S:=fun w'=>Near C h r (seen t (.load u x)) w w') (fun w' hx j v e=>hc w' hx.1 hx.2.2 j v e)
  refine ⟨v,z,h1,h2,fun o' w' ho hx=>?_⟩
  have hx:=hx rfl
  simp only [execOp,ho,e]
  rw [hsp]
  exact exec_v (h3 w' hx)
 ·exact hk.elim
theorem nthF_eq:∀ (l:List (Nat × Nat)) (n:Nat),nthF l n=l[n]?
 | [],_=>rfl
 | _::_,0=>rfl
 | _::r,n+1=>nthF_eq r n
theorem struct_field {P:Program} {u:TypeId} {fs:List (Nat × Nat)} (h:TK.Ok P u (.struct fs)) {f e off:Nat} (hf:nthF fs f=some (e,off)) :
  ∃ gs g,P.underlying u=some (.struct gs)∧gs[f]?=some g∧g.type=e∧g.offset=off:=by
 simp only [TK.Ok] at h
 unfold fieldsOf at h
 split at h
 ·rename_i gs hu
  injection h with h
  rw [nthF_eq,← h,List.getElem?_map,Option.map_eq_some_iff] at hf
  obtain ⟨g,hg,e'⟩:=hf
  simp only [Prod.mk.injEq] at e'
  exact ⟨gs,g,hu,by simpa using hg,e'.1,e'.2⟩
 ·cases h
theorem rd_fieldAddr {u:TypeId} {x:Operand} {f:Nat} (hT:AllT C.P C.T) (ok:Ok C ⟨t,h⟩ r a w) (hk:stepR C (.fieldAddr u x f) t h k):RdOk C t h (.fieldAddr u x f) a w r k:=by
 unfold stepR at hk
 obtain ⟨d,hd,hk⟩:=td_spec hT hk
 split at hk <;> try exact hk.elim
 rename_i fs hkd
 have hkk:=hd.kind
 rw [hkd] at hkk
 split at hk <;> try exact hk.elim
 rename_i e off hf
 obtain ⟨gs,g,hu,hg,ht,hoff⟩:=struct_field hkk hf
 obtain ⟨de,hde,hk⟩:=td_spec hT hk
 split at hk <;> try exact hk.elim
 rename_i m hm
 obtain ⟨p,hk,hp,_⟩:=ev_c ok hk
 have run:∀ (b:Addr) (w':World),a.eval x=.pointer (some b)→(Instr.fieldAt u (a.eval x) f).run C.P w'=.ok (.pointer (some (b.add off))) w':=by
  intro b w' hb
  have hsz:=hde.sizeOf w'
  rw [hm] at hsz
  simp only [Instr.fieldAt,Sem.run_bind,run_underlying hu,Result.andThen_ok,hg,hb,Instr.sureAddr,fieldPlace,ht]
  simp [hsz,hoff,pure]
 split at hk
 ·rename_i i b o _
  obtain ⟨B,fo,hr,hb⟩:=hp
  have fin:∀ (b' o':Nat),b'+o'=b+o+off→k (.a (.c (.p i b' o')))→RdOk C t h (.fieldAddr u x f) a w r k:=by
   intro b' o' he hk
   refine ⟨_,_,hk,⟨B,fo,hr,rfl⟩,fun o'' w' ho _=>?_⟩
   simp only [execOp,ho]
   have:=run _ w' hb
   rw [add_none] at this
   rw [show fo+(b'+o')=fo+(b+o)+off by omega]
   exact exec_v this
  split at hk
  ·exact fin _ _ (by omega) hk
  ·exact fin _ _ (by omega) hk
 ·rename_i b _
  refine ⟨_,_,hk,rfl,fun o'' w' ho _=>?_⟩
  simp only [execOp,ho]
  exact exec_v (run _ w' hp)
 ·exact hk.elim
theorem run_asInt {P:Program} (kk:IntKind) (n:Int) (w:World):(asIntOf (.int kk n)).run P w=.ok (kk,n) w:=rfl
theorem rd_indexAddr {u:TypeId} {x ix:Operand} (hT:AllT C.P C.T) (ok:Ok C ⟨t,h⟩ r a w) (hk:stepR C (.indexAddr u x ix) t h k):RdOk C t h (.indexAddr u x ix) a w r k:=by
 unfold stepR at hk
 obtain ⟨d,hd,hk⟩:=td_spec hT hk
 obtain ⟨q,hk,hq,_⟩:=ev_c ok hk
 obtain ⟨n,hk,hn⟩:=idx_spec hk
 obtain ⟨kk,hn⟩:=hn _ _ hq
 have hkk:=hd.kind
 have cellP:∀ {i b o o':Nat} {B fo m:Nat} {e:TypeId},r[i]?=some (B,fo)→o'=n.toNat*m+o→k (.a (.c (.p i b o')))→(∀ w':World,(Instr.indexAt u (a.eval x) (a.eval ix)).run C.P w'=.ok (.pointer (some ((⟨B,fo+(b+o),none⟩:Addr).add (n.toNat*m)))) w')→RdOk C t h (.indexAddr u x ix) a w r k:=by
  intro i b o o' B fo m e hr ho' hk hrun
  refine ⟨_,_,hk,⟨B,fo,hr,rfl⟩,fun o'' w' ho _=>?_⟩
  simp only [execOp,ho]
  have:=hrun w'
  rw [add_none] at this
  rw [show fo+(b+o')=fo+(b+o)+n.toNat*m by omega]
  exact exec_v this
 split at hk
 ·rename_i len e hkd
  rw [hkd] at hkk
  simp only [TK.Ok] at hkk
  obtain ⟨de,hde,hk⟩:=td_spec hT hk
  obtain ⟨p,hk,hp,_⟩:=ev_c ok hk
  have run:∀ (b:Addr) (w':World),a.eval x=.pointer (some b)→(0≤n∧n<(len:Int))→(Instr.indexAt u (a.eval x) (a.eval ix)).run C.P w'=.ok (.pointer (some (b.add (n.toNat*de.size)))) w':=by
   intro b w' hb hin
   simp only [Instr.indexAt,hn,hb,Sem.run_bind,run_asInt,run_underlying hkk,Result.andThen_ok,Instr.sureAddr]
   simp [hin,hde.sizeOf,pure]
  split at hk
  ·rename_i i b o _
   obtain ⟨B,fo,hr,hb⟩:=hp
   exact cellP (e:=e) hr rfl (elt_spec hk.2) (fun w'=>run _ w' hb hk.1)
  ·rename_i b _
   refine ⟨_,_,hk.2,rfl,fun o'' w' ho _=>?_⟩
   simp only [execOp,ho]
   exact exec_v (run _ w' hp hk.1)
  ·exact hk.elim
 ·rename_i e hkd
  rw [hkd] at hkk
  simp only [TK.Ok] at hkk
  obtain ⟨de,hde,hk⟩:=td_spec hT hk
  obtain ⟨p,hk,hp,_⟩:=ev_c ok hk
  have run:∀ (b:Addr) (len c:Nat) (w':World),a.eval x=.slice (some b) len c→(0≤n∧n<(len:Int))→(Instr.indexAt u (a.eval x) (a.eval ix)).run C.P w'=.ok (.pointer (some (b.add (n.toNat*de.size)))) w':=by
   intro b len c w' hb hin
   simp only [Instr.indexAt,hn,hb,Sem.run_bind,run_asInt,run_underlying hkk,Result.andThen_ok]
   simp [hin,hde.sizeOf,pure]
  split at hk
  ·rename_i i b o len c _
   obtain ⟨B,fo,hr,hb⟩:=hp
   exact cellP (e:=e) hr rfl (elt_spec hk.2) (fun w'=>run _ _ _ w' hb hk.1)
  ·rename_i b len c _
   refine ⟨_,_,hk.2,rfl,fun o'' w' ho _=>?_⟩
   simp only [execOp,ho]
   exact exec_v (run _ _ _ w' hp hk.1)
  ·rename_i z i b o len c _
   rcases hp with ⟨_,_,rfl,_⟩|⟨_,B,fo,hr,hb⟩|⟨_,rfl,_,_⟩
   ·have:=hk.1; omega
   ·exact cellP (e:=e) hr rfl (elt_spec hk.2) (fun w'=>run _ _ _ w' hb hk.1)
   ·have:=hk.1; omega
  ·exact hk.elim
 ·exact hk.elim
theorem srcC_cells (ok:Ok C ⟨t,h⟩ r a w) {x:Operand} {K:Nat→(Nat→SC)→Prop} (hk:srcC C 1 h (ev t x) K) :
  ∃ m g,K m g∧((∃ l:List UInt8,a.eval x=.string ⟨l.toArray⟩∧m=l.length∧g=fun q=>.w8 (l.getD q 0).toBitVec)∨(∃ c,m=0∧a.eval x=.slice none 0 c)∨∃ (ad:Addr) (c:Nat),a.eval x=.slice (some ad) m c∧∃ vs:List Value,IsL r ((List.range m).map g) vs∧∀ w',Near C h r (nmV (ev t x)) w w'→∀ (j:Nat) v,vs[j]?=some v→w'.cell? (ad.add j)=some v):=by
 have hv:=ok.ev x
 unfold srcC at hk
 split at hk
 ·rename_i j b o m c e0
  simp only [e0] at hv
  obtain ⟨B,f,hr,hv⟩:=hv
  split at hk <;> try exact hk.elim
  rename_i N g tl hs
  obtain ⟨hN,hk⟩:=hk
  rw [scale_eq,Nat.mul_one] at hN
  have hA:=(ok.heap.chunk hr).sub (d:=b+o) (l':=(List.range m).map fun q=>g (q+o)) (fun q y e=>by
   have hq:q<m:=by
    rcases Nat.lt_or_ge q m with h|h
    ·exact h
    ·rw [List.getElem?_eq_none (by simpa using h)] at e; cases e
   simp [hq] at e
   rw [show b+o+q=b+(q+o) by omega,← segs?_spec hs,flat_row_lt _ _ _ (by omega),e])
  obtain ⟨vs,h1,h2⟩:=hA.vals
  refine ⟨m,_,hk,.inr (.inr ⟨⟨B,f+(b+o),none⟩,c,hv,vs,h1,fun w' hx j v e=>?_⟩)⟩
  rw [add_none]
  have hcv:=h2 j v e
  have hjm:j<m:=by
   have:=h1.1
   rcases Nat.lt_or_ge j vs.length with h|h
   ·simp at this; omega
   ·rw [List.getElem?_eq_none h] at e; cases e
  have hne:∀ l:List SC,flat (getH h _)=l→l≠[]:=fun l hl hn=>by
   have e1:=segs?_spec hs (j+o)
   rw [hl,hn,flat_row_lt _ _ _ (by omega)] at e1
   cases e1
  rw [World.cell?_of_block (ok.heap.near hr hx (by rw [e0]; simp [nmV]) (hne _ rfl) (cell_lt hcv))]
  exact hcv
 ·rename_i m c e
  simp only [e] at hv
  obtain ⟨rfl,hk⟩:=hk
  exact ⟨0,_,hk,.inr (.inl ⟨c,rfl,hv⟩)⟩
 ·rename_i ad m c e
  simp only [e] at hv
  obtain ⟨g,hr,hk⟩:=hk
  have hv:a.eval x=.slice (some ad) m c:=hv
  rcases hr with rfl|hr
  ·exact ⟨0,_,hk,.inr (.inr ⟨ad,c,hv,[],⟨by simp,fun j y e=>by simp at e⟩,fun w' hx j v e=>by simp at e⟩)⟩
  have hsp:=hr.spot
  obtain ⟨vs,h1,h2⟩:=RawAt.vals (r:=r) hr
  rw [hsp] at hv
  simp only [Nat.mul_one] at h1
  exact ⟨m,g,hk,.inr (.inr ⟨⟨ad.block,ad.off,none⟩,c,hv,vs,h1,fun w' hx j v e=>by rw [add_none]; exact h2 w' hx.1 hx.2.2 j v e⟩)⟩
 ·rename_i l e
  simp only [e] at hv
  exact ⟨_,_,hk,.inl ⟨l,hv,rfl,rfl⟩⟩
 ·rename_i z j b o m c e0
  simp only [e0] at hv
  obtain ⟨g',⟨_,hsn⟩,hk⟩:=hk
  rcases hv with ⟨_,hv,rfl,rfl⟩|⟨hz,B,f,hr,hv⟩|⟨_,rfl,rfl,B,f,s,hv⟩
  ·exact ⟨0,_,hk,.inr (.inl ⟨0,rfl,hv⟩)⟩
  rotate_left
  ·exact ⟨0,_,hk,.inr (.inr ⟨⟨B,f,s⟩,0,hv,[],⟨by simp,fun j y e=>by simp at e⟩,fun w' hx j v e=>by simp at e⟩)⟩
  obtain ⟨N,g,tl,hs,hN,hg'⟩:=hsn hz
  rw [scale_eq,Nat.mul_one] at hN hg'
  have hA:=(ok.heap.chunk hr).sub (d:=b+o) (l':=(List.range m).map g') (fun q y e=>by
   have hq:q<m:=by
    rcases Nat.lt_or_ge q m with h|h
    ·exact h
    ·rw [List.getElem?_eq_none (by simpa using h)] at e; cases e
   simp [hq] at e
   rw [show b+o+q=b+(q+o) by omega,← segs?_spec hs,flat_row_lt _ _ _ (by omega),← hg' q hq,e])
  obtain ⟨vs,h1,h2⟩:=hA.vals
  refine ⟨m,_,hk,.inr (.inr ⟨⟨B,f+(b+o),none⟩,c,hv,vs,h1,fun w' hx j v e=>?_⟩)⟩
  rw [add_none]
  have hcv:=h2 j v e
  have hjm:j<m:=by
   have:=h1.1
   rcases Nat.lt_or_ge j vs.length with h|h
   ·simp at this; omega
   ·rw [List.getElem?_eq_none h] at e; cases e
  have hne:∀ l:List SC,flat (getH h _)=l→l≠[]:=fun l hl hn=>by
   have e1:=segs?_spec hs (j+o)
   rw [hl,hn,flat_row_lt _ _ _ (by omega)] at e1
   cases e1
  rw [World.cell?_of_block (ok.heap.near hr hx (by rw [e0]; simp [nmV]) (hne _ rfl) (cell_lt hcv))]
  exact hcv
 ·exact hk.elim
theorem rd_convert {u d:TypeId} {x:Operand} (hT:AllT C.P C.T) (ok:Ok C ⟨t,h⟩ r a w) (hk:stepR C (.convert u d x) t h k):RdOk C t h (.convert u d x) a w r k:=by
 unfold stepR at hk
 obtain ⟨du,hu,hk⟩:=td_spec hT hk
 obtain ⟨dd,hd,hk⟩:=td_spec hT hk
 split at hk
 ·rename_i e ek1 ek2
  have h1:=hu.kind
  have h2:=hd.kind
  rw [ek1] at h1
  rw [ek2] at h2
  simp only [TK.Ok] at h1 h2
  obtain ⟨de,hde,hk⟩:=td_spec hT hk
  have h3:=hde.kind
  split at hk <;> try exact hk.elim
  rename_i ek3
  rw [ek3] at h3
  simp only [TK.Ok] at h3
  obtain ⟨m,g,⟨l,⟨hl,hg⟩,hk⟩,hc⟩:=srcC_cells ok hk
  refine ⟨.string ⟨l.toArray⟩,_,hk,rfl,fun o w' ho hx=>?_⟩
  simp only [execOp,ho]
  refine exec_v ?_
  rcases hc with ⟨l',hc,rfl,rfl⟩|⟨c,rfl,hc⟩|⟨ad,c,hc,vs,hvs,hcell⟩
  ·have hll:l=l':=by
    apply List.ext_getElem hl
    intro j h1 h2
    have:=hg j h2
    injection this with this
    have e:=congrArg UInt8.ofBitVec this
    simp [h1,h2] at e
    exact e.symm
   subst hll
   rw [hc]
   simp only [convert,Sem.run_bind,run_underlying h1,run_underlying h2,Result.andThen_ok]
   rfl
  ·have:l=[]:=List.eq_nil_of_length_eq_zero hl
   subst this
   rw [hc,run_convert_bytes_string w' u d e none 0 c h1 h3 h2]
   rfl
  ·rw [hc,← hl]
   refine run_convert_bytes_back w' u d e ad c l h1 h3 h2 (fun j hj=>?_)
   obtain ⟨v,e1,e2⟩:=hvs.2 j (g j) (by rw [List.getElem?_map,List.getElem?_range (by omega)]; rfl)
   rw [hg j (by omega)] at e2
   rw [hcell w' (hx rfl) j v e1]
   have e2:v=.int .u8 (((l.getD j 0).toBitVec).toNat:Int):=e2
   rw [e2]
   simp [hj]
 ·obtain ⟨p,hk,hp,_⟩:=ev_c ok hk
  obtain ⟨z,v,h1,h2,h3⟩:=conv_spec hu hd hk hp
  refine ⟨v,_,h1,h2 r,fun o w' ho _=>?_⟩
  simp only [execOp,ho]
  exact exec_v (h3 w')
end
end Sx
end
section
namespace Sx
open Go.RowKit Go.MapKept

def pairs (es:List MapEntry):List (Value × Value):=es.map fun e=>(e.key,e.val)
theorem findNow_keys {α β:Type} [DecidableEq α] {d:TypeDesc} {kv:α→Value} {vv:β→Value} (hk:∀ a,IsKey d (kv a)) (inj:∀ a b,kv a=kv b→a=b) (k:α) (z:β) :
  ∀ (es:List MapEntry) (l:List (α × β)) (i:Nat),pairs es=l.map (fun x=>(kv x.1,vv x.2)) →
   (hasK k l=false∧Instr.findNow d (kv k) es i=some none∧lookK k z l=z∧∀ v,putK k v l=l++[(k,v)]) ∨
   (hasK k l=true∧∃ j e,Instr.findNow d (kv k) es i=some (some (i+j,vv (lookK k z l)))∧es[j]?=some e∧e.key=kv k∧∀ v,pairs (es.modify j fun e=>{ e with key:=kv k,val:=vv v })=(putK k v l).map fun x=>(kv x.1,vv x.2))
 | [],l,i,h=>by
  cases l with
  | nil=>exact .inl ⟨rfl,rfl,rfl,fun v=>rfl⟩
  | cons x l=>cases h
 | e::es,[],i,h=>by cases h
 | e::es,x::l,i,h=>by
  simp only [pairs,List.map_cons,List.cons.injEq,Prod.mk.injEq] at h
  obtain ⟨⟨h1,h2⟩,h3⟩:=h
  obtain ⟨r,hr,hiff⟩:=sameNow_of_keys (hk k) (hk x.1)
  by_cases he:k=x.1
  ·have:r=true:=hiff.2 (by rw [he])
   subst this
   refine .inr ⟨by simp [hasK,he],0,e,?_,rfl,by rw [h1,he],fun v=>?_⟩
   ·simp only [Instr.findNow,h1,hr,lookK,if_pos he,h2,Nat.add_zero]
   ·simp only [List.modify_zero_cons,pairs,List.map_cons,putK,if_pos he]
    rw [h3]
  ·have:r=false:=by
    cases r with
    | false=>rfl
    | true=>exact absurd (inj _ _ (hiff.1 rfl)) he
   subst this
   rcases findNow_keys hk inj k z es l (i+1) h3 with ⟨a1,a2,a3,a4⟩|⟨a1,j,e',a2,a3,a4,a5⟩
   ·refine .inl ⟨by simp [hasK,he,a1],?_,by simp only [lookK,if_neg he,a3],fun v=>by simp only [putK,if_neg he,a4,List.cons_append]⟩
    simp only [Instr.findNow,h1,hr,a2]
   ·refine .inr ⟨by simp [hasK,a1],j+1,e',?_,a3,a4,fun v=>?_⟩
    ·simp only [Instr.findNow,h1,hr,a2,lookK,if_neg he]
     rw [show i+1+j=i+(j+1) by omega]
    ·simp only [List.modify_succ_cons,pairs,List.map_cons,putK,if_neg he]
     have:=a5 v
     unfold pairs at this
     rw [this,h1,h2]
theorem hasS_eq (k:List UInt8):∀ l:List (List UInt8),hasS k l=hasK k (l.map fun x=>(x,()))
 | []=>rfl
 | x::l=>by simp [hasS,hasK,hasS_eq k l]
theorem putL_eq (k:List UInt8):∀ l:List (List UInt8),(putL' k l).map (fun x=>(x,()))=putK k () (l.map fun x=>(x,()))
 | []=>rfl
 | x::l=>by
  have ih:=putL_eq k l
  unfold putL' at ih ⊢
  by_cases h:k=x
  ·have e:hasS k (x::l)=true:=by simp [hasS,h]
   rw [e]
   simp only [List.map_cons,putK,if_pos h]
   rw [h]
  ·have e:hasS k (x::l)=hasS k l:=by simp [hasS,h]
   rw [e]
   cases hq:hasS k l with
   | true =>
    rw [hq] at ih
    simp only [List.map_cons,putK,if_neg h]
    rw [← ih]
   | false =>
    rw [hq] at ih
    simp only [List.map_append,List.map_cons,List.cons_append,putK,if_neg h]
    rw [← ih,List.map_append]
    rfl
theorem zero_of {P:Program} {e:TypeId} {v:Value} (h:(P.info? e).map (·.zero)=some (some v)) (w:World):(zeroValue e).run P w=.ok v w:=by
 obtain ⟨i,hi,e2⟩:=Option.map_eq_some_iff.1 h
 simp [Go.zeroValue,typeInfo,hi,e2]
theorem lookup_run {α β:Type} [DecidableEq α] {P:Program} {w:World} {u kt et:TypeId} {d:TypeDesc} {kv:α→Value} {vv:β→Value} (hk:∀ a,IsKey d (kv a)) (inj:∀ a b,kv a=kv b→a=b) (k:α) (z:β)
  (hu:P.underlying u=some (.map kt et)) (hd:P.underlying kt=some d) (hz:(P.info? et).map (·.zero)=some (some (vv z))) {B:Nat} {es:Array MapEntry} {clock:Nat} (hb:w.heap[B]?=some (.map es clock))
  {l:List (α × β)} (hl:pairs es.toList=l.map fun x=>(kv x.1,vv x.2)) (ok:Bool) :
  (Instr.lookup u (.map (some B)) (kv k) ok).run P w=.ok (if ok then .tuple #[vv (lookK k z l),.bool (hasK k l)] else vv (lookK k z l)) w:=by
 rcases findNow_keys hk inj k z es.toList l 0 hl with ⟨a1,a2,a3,_⟩|⟨a1,j,e,a2,_⟩
 ·simp [Instr.lookup,run_underlying hu,Go.MapKept.run_getObj_map hb,run_checkKey hd (hk k),run_findKey hd a2,zero_of hz,Result.andThen,a1,a3]
 ·simp [Instr.lookup,run_underlying hu,Go.MapKept.run_getObj_map hb,run_checkKey hd (hk k),run_findKey hd a2,Result.andThen,a1]
theorem update_run {α β:Type} [DecidableEq α] {P:Program} {w:World} {u kt et:TypeId} {d:TypeDesc} {kv:α→Value} {vv:β→Value} (hk:∀ a,IsKey d (kv a)) (inj:∀ a b,kv a=kv b→a=b) (k:α) (v:β)
  (hu:P.underlying u=some (.map kt et)) (hd:P.underlying kt=some d) {B:Nat} {es:Array MapEntry} {clock:Nat} (hb:w.heap[B]?=some (.map es clock))
  {l:List (α × β)} (hl:pairs es.toList=l.map fun x=>(kv x.1,vv x.2)) :
  ∃ (es':Array MapEntry) (clock':Nat),(Instr.mapUpdate u (.map (some B)) (kv k) (vv v)).run P w=.ok () { w with heap:=w.heap.setIfInBounds B (.map es' clock') }∧pairs es'.toList=(putK k v l).map fun x=>(kv x.1,vv x.2):=by
 rcases findNow_keys hk inj k v es.toList l 0 hl with ⟨a1,a2,a3,a4⟩|⟨a1,j,e,a2,a3,a4,a5⟩
 ·refine ⟨es.push { key:=kv k,val:=vv v,born:=clock },clock+1,?_,?_⟩
  ·simp [Instr.mapUpdate,run_underlying hu,Go.MapKept.run_getObj_map hb,run_checkKey hd (hk k),run_findKey hd a2,run_setObj_map _ hb,Result.andThen]
  ·rw [a4 v]
   unfold pairs at hl ⊢
   simp [hl]
 ·have hj:es[j]?=some e:=by simpa using a3
  refine ⟨es.modify j fun e=>{ e with key:=kv k,val:=vv v },clock,?_,?_⟩
  ·simp [Instr.mapUpdate,run_underlying hu,Go.MapKept.run_getObj_map hb,run_checkKey hd (hk k),run_findKey hd a2,hj,a4,run_keyThatStays (hk k),run_setObj_map _ hb,Result.andThen]
  ·rw [Array.toList_modify]
   exact a5 v
theorem kv64:∀ a b:BitVec 64,Value.int .u64 (a.toNat:Int)=.int .u64 (b.toNat:Int)→a=b:=fun a b h=>by
 injection h with _ h
 exact BitVec.eq_of_toNat_eq (by omega)
theorem kv8:∀ a b:BitVec 8,Value.int .u8 (a.toNat:Int)=.int .u8 (b.toNat:Int)→a=b:=fun a b h=>by
 injection h with _ h
 exact BitVec.eq_of_toNat_eq (by omega)
theorem kvs:∀ a b:List UInt8,Value.string ⟨a.toArray⟩=.string ⟨b.toArray⟩→a=b:=fun a b h=>by
 injection h with h
 injection h with h
 simpa using congrArg Array.toList h
section
variable {C : Cx} {t : List SV} {h : List (List Seg)} {r : Rho} {a : Act} {w : World} {k : SV → Prop}
theorem rd_lookup {u:TypeId} {x y:Operand} {ok:Bool} (hT:AllT C.P C.T) (okk:Ok C ⟨t,h⟩ r a w) (hk:stepR C (.lookup u x y ok) t h k):RdOk C t h (.lookup u x y ok) a w r k:=by
 unfold stepR at hk
 obtain ⟨d,hd,hk⟩:=td_spec hT hk
 split at hk <;> try exact hk.elim
 rename_i mk i hdk hx
 split at hk <;> try exact hk.elim
 rename_i m hro hm
 obtain ⟨key,hk,hkey,-⟩:=ev_c okk hk
 have hp:=okk.ev x
 simp only [hx] at hp
 obtain ⟨B,f,hr,hp⟩:=hp
 have hi:h[i]?=some [.obj m]:=by
  rw [getH_eq] at hm
  cases e:h[i]? with
  | none=>rw [e] at hm; cases hm
  | some c=>rw [e] at hm; exact congrArg some hm
 have hO:ObjAt w B m:=okk.heap.maps i m B f (ble_le hro) hi hr
 have hst:∀ w',Near C h r (seen t (.lookup u x y ok)) w w'→w'.heap[B]?=w.heap[B]?:=fun w' hn =>
  hn.2.1 i (by simp [seen,hx,nmV]) (ble_le hro) B f hr hO.lt
 have hkd:=hd.kind
 rw [hdk] at hkd
 obtain ⟨kt,et,hu,hmk⟩:=hkd
 cases mk
 case w64 =>
  cases m with
  | w64 l =>
   cases key with
   | w64 kx =>
    have hkey:a.eval y=(fun z:BitVec 64=>Value.int .u64 (z.toNat:Int)) kx:=hkey
    have hl:∀ es:List MapEntry,es.map (fun e=>(e.key,e.val))=(MapD.w64 l).ents→pairs es=(l).map fun x=>((fun z:BitVec 64=>Value.int .u64 (z.toNat:Int)) x.1,(fun z:BitVec 64=>Value.int .u64 (z.toNat:Int)) x.2):=fun es e=>e.trans (rfl)
    have run:∀ w',Near C h r (seen t (.lookup u x y ok)) w w'→(Instr.lookup u (a.eval x) (a.eval y) ok).run C.P w'=.ok (if ok then .tuple #[(fun z:BitVec 64=>Value.int .u64 (z.toNat:Int)) (lookK kx 0#64 (l)),.bool (hasK kx (l))] else (fun z:BitVec 64=>Value.int .u64 (z.toNat:Int)) (lookK kx 0#64 (l))) w':=fun w' hn=>by
     obtain ⟨es,clock,e1,e2⟩:=hO.block (hst w' hn)
     rw [hp,hkey]
     exact lookup_run (kv:=(fun z:BitVec 64=>Value.int .u64 (z.toNat:Int))) (vv:=(fun z:BitVec 64=>Value.int .u64 (z.toNat:Int))) (d:=.int .u64) (fun _=>rfl) kv64 kx 0#64 hu hmk.1 hmk.2 e1 (hl _ e2) ok
    simp only [lookM] at hk
    cases ok with
    | true=>exact ⟨_,_,hk,⟨[(fun z:BitVec 64=>Value.int .u64 (z.toNat:Int)) (lookK kx 0#64 l),.bool (hasK kx l)],rfl,rfl,fun j z e=>by
      match j,e with
      | 0,e=>cases e; exact ⟨_,rfl,rfl⟩
      | 1,e=>cases e; exact ⟨_,rfl,rfl⟩⟩,fun o w' ho hx=>by
      simp only [execOp,ho]
      exact exec_v (run w' (hx rfl))⟩
    | false=>exact ⟨_,_,hk,rfl,fun o w' ho hx=>by
      simp only [execOp,ho]
      exact exec_v (run w' (hx rfl))⟩
   | _=>exact hk.elim
  | _=>exact hk.elim
 case w8b =>
  cases m with
  | w8b l =>
   cases key with
   | w8 kx =>
    have hkey:a.eval y=(fun z:BitVec 8=>Value.int .u8 (z.toNat:Int)) kx:=hkey
    have hl:∀ es:List MapEntry,es.map (fun e=>(e.key,e.val))=(MapD.w8b l).ents→pairs es=(l).map fun x=>((fun z:BitVec 8=>Value.int .u8 (z.toNat:Int)) x.1,(fun z:Bool=>Value.bool z) x.2):=fun es e=>e.trans (rfl)
    have run:∀ w',Near C h r (seen t (.lookup u x y ok)) w w'→(Instr.lookup u (a.eval x) (a.eval y) ok).run C.P w'=.ok (if ok then .tuple #[(fun z:Bool=>Value.bool z) (lookK kx false (l)),.bool (hasK kx (l))] else (fun z:Bool=>Value.bool z) (lookK kx false (l))) w':=fun w' hn=>by
     obtain ⟨es,clock,e1,e2⟩:=hO.block (hst w' hn)
     rw [hp,hkey]
     exact lookup_run (kv:=(fun z:BitVec 8=>Value.int .u8 (z.toNat:Int))) (vv:=(fun z:Bool=>Value.bool z)) (d:=.int .u8) (fun _=>rfl) kv8 kx false hu hmk.1 hmk.2 e1 (hl _ e2) ok
    simp only [lookM] at hk
    cases ok with
    | true=>exact ⟨_,_,hk,⟨[(fun z:Bool=>Value.bool z) (lookK kx false l),.bool (hasK kx l)],rfl,rfl,fun j z e=>by
      match j,e with
      | 0,e=>cases e; exact ⟨_,rfl,rfl⟩
      | 1,e=>cases e; exact ⟨_,rfl,rfl⟩⟩,fun o w' ho hx=>by
      simp only [execOp,ho]
      exact exec_v (run w' (hx rfl))⟩
    | false=>exact ⟨_,_,hk,rfl,fun o w' ho hx=>by
      simp only [execOp,ho]
      exact exec_v (run w' (hx rfl))⟩
   | _=>exact hk.elim
  | _=>exact hk.elim
 case strs =>
  cases m with
  | strs l =>
   cases key with
   | str kx =>
    have hkey:a.eval y=(fun z:List UInt8=>Value.string ⟨z.toArray⟩) kx:=hkey
    have hl:∀ es:List MapEntry,es.map (fun e=>(e.key,e.val))=(MapD.strs l).ents→pairs es=(l.map fun x=>(x,())).map fun x=>((fun z:List UInt8=>Value.string ⟨z.toArray⟩) x.1,(fun _:Unit=>Value.agg #[]) x.2):=fun es e=>e.trans (by unfold MapD.ents; rw [List.map_map]; rfl)
    have run:∀ w',Near C h r (seen t (.lookup u x y ok)) w w'→(Instr.lookup u (a.eval x) (a.eval y) ok).run C.P w'=.ok (if ok then .tuple #[(fun _:Unit=>Value.agg #[]) (lookK kx () (l.map fun x=>(x,()))),.bool (hasK kx (l.map fun x=>(x,())))] else (fun _:Unit=>Value.agg #[]) (lookK kx () (l.map fun x=>(x,())))) w':=fun w' hn=>by
     obtain ⟨es,clock,e1,e2⟩:=hO.block (hst w' hn)
     rw [hp,hkey]
     exact lookup_run (kv:=(fun z:List UInt8=>Value.string ⟨z.toArray⟩)) (vv:=(fun _:Unit=>Value.agg #[])) (d:=.string) (fun _=>trivial) kvs kx () hu hmk.1 hmk.2 e1 (hl _ e2) ok
    simp only [lookM] at hk
    rw [hasS_eq] at hk
    cases ok with
    | true=>exact ⟨_,_,hk,⟨[(fun _:Unit=>Value.agg #[]) (lookK kx () (l.map fun x=>(x,()))),.bool (hasK kx (l.map fun x=>(x,())))],rfl,rfl,fun j z e=>by
      match j,e with
      | 0,e=>cases e; exact ⟨_,rfl,⟨[],rfl,rfl,fun j x e=>by simp [flat] at e⟩⟩
      | 1,e=>cases e; exact ⟨_,rfl,rfl⟩⟩,fun o w' ho hx=>by
      simp only [execOp,ho]
      exact exec_v (run w' (hx rfl))⟩
    | false=>exact ⟨_,_,hk,⟨[],rfl,rfl,fun j x e=>by simp [flat] at e⟩,fun o w' ho hx=>by
      simp only [execOp,ho]
      exact exec_v (run w' (hx rfl))⟩
   | _=>exact hk.elim
  | _=>exact hk.elim
end
end Sx
end
end Go.Proofs.Ytgmbfaefadefjaa
