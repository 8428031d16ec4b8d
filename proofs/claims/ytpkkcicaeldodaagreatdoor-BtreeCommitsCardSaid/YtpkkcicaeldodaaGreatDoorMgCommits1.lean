/- Texts 1 of 8 that the proof of Commits stands on. -/
import Derived.WalkKit
import Derived.WalkSpells
import Derived.WalkLawsBesides
import Derived.BigQuiet
import Derived.Deep.QuietTactic
import Derived.Lib.Hide
import Derived.Deep.RegionHeld3
import Derived.Deep.AppendLies
import Derived.Deep.DrawnRows
import Derived.Deep.RegionLaw
import Derived.OrdersHeld
import Derived.Deep.RegionHeld
import Derived.RangeFuncNested
import Derived.RangeFuncBound
import Derived.RangeFuncCalls
import Derived.RangeFuncLeaves
import Derived.Shelf.Abstract
import Derived.Shelf.RegionOpen
import Derived.OwnWalkIn
import Derived.TacticsInMore
import Derived.LoopNIn
import Derived.LoopIn
import Derived.Sort.BigQuietIn
import Derived.OrdersIn
import Derived.Maps.AppendAt
import Derived.Maps.OwnSet
import Derived.Maps.Views
import Derived.WideKeyEntry
import Derived.Carry
import Derived.Test.YtpkkcicaeldodaaGreatDoorRows
import Derived.Lib.TrailingZeros
import Derived.Shelf.Spec.TrailingZeros
import Derived.Laws.Bits64b
import Derived.Deep.LoopGhost
import Derived.Sort.LoopGhostIn
import Derived.Laws.CopyOwn
import Derived.Laws.BytesArg
set_option linter.unusedSimpArgs false
set_option linter.unusedVariables false
set_option maxRecDepth 100000
set_option maxHeartbeats 6400000
open Go.Proofs.Tryz
namespace Go.Proofs.YtpkkcicaeldodaaGreatDoor
section
open Go.RowKit
structure Chg (F:Nat→Prop) (w w':World):Prop where
 os:w'.os=w.os
 tape:w'.tape=w.tape
 output:w'.output=w.output
 size:w.heap.size≤w'.heap.size
 block:∀k,k< w.heap.size→¬F k→w'.heap[k]? =w.heap[k]?
def NoF:Nat→Prop:=fun _=>False
abbrev Grew (w w':World):Prop:=Chg NoF w w'
section
variable {F G:Nat→Prop} {w w' a b c:World}
theorem Chg.refl (F:Nat→Prop) (w:World):Chg F w w:=⟨rfl,rfl,rfl,Nat.le_refl _,fun _ _ _=>rfl⟩
theorem Chg.trans (h:Chg F a b) (k:Chg G b c) (hG:∀i,i< a.heap.size→G i→F i):Chg F a c:=
 ⟨k.os.trans h.os,k.tape.trans h.tape,k.output.trans h.output,Nat.le_trans h.size k.size,
  fun i hi hf=>(k.block i (Nat.lt_of_lt_of_le hi h.size) (fun g=>hf (hG i hi g))).trans (h.block i hi hf)⟩
theorem Chg.mono (h:Chg F a b) (hG:∀i,i< a.heap.size→F i→G i):Chg G a b:=
 ⟨h.os,h.tape,h.output,h.size,fun i hi hg=>h.block i hi (fun f=>hg (hG i hi f))⟩
theorem Grew.chg (h:Grew a b):Chg F a b:=h.mono fun _ _ f=>f.elim
theorem Grew.trans (h:Grew a b) (k:Grew b c):Grew a c:=Chg.trans h k fun _ _ f=>f.elim
theorem Chg.grew (h:Chg F a b) (k:Grew b c):Chg F a c:=Chg.trans h k fun _ _ f=>f.elim
theorem Grew.then (h:Grew a b) (k:Chg F b c):Chg F a c:=Chg.trans h.chg k fun _ _ f=>f
theorem Grew.below (h:Grew a b):Below a.heap.size a b:=⟨h.os,h.tape,h.output,h.size,fun k hk=>h.block k hk id⟩
theorem Chg.drew (h:Chg F a b):Chg F a b.drew:=⟨h.os,h.tape,h.output,h.size,h.block⟩
theorem Chg.drewN (h:Chg F a b) (n:Nat):Chg F a (b.drewN n):=⟨h.os,h.tape,h.output,h.size,h.block⟩
theorem Chg.alloc (h:Chg F a b) (o:Obj):Chg F a (b.alloc o):=
 ⟨h.os,h.tape,h.output,Nat.le_trans h.size (by simp),fun i hi hf=>(Below.heap_alloc b o i (Nat.lt_of_lt_of_le hi h.size)).trans (h.block i hi hf)⟩
theorem Chg.setCell (h:Chg F a b) {p:Addr} (hp:p.block< a.heap.size→F p.block) (u:Value):Chg F a (b.setCell p u):=
 ⟨h.os,h.tape,h.output,by simpa [World.setCell] using h.size,fun i hi hf=>(Below.heap_setCell b p u i (by
  rintro rfl;exact hf (hp hi))).trans (h.block i hi hf)⟩
theorem Chg.grown {row:Option Nat} (h:Chg F a b) (hg:b.grownBy c row) (hr:∀k,row=some k→k< a.heap.size→F k):Chg F a c:=
 ⟨hg.os.trans h.os,hg.tape.trans h.tape,hg.output.trans h.output,Nat.le_trans h.size hg.size,fun i hi hf=>
  (hg.block i (Nat.lt_of_lt_of_le hi h.size) (fun e=>hf (hr i e.symm hi))).trans (h.block i hi hf)⟩
theorem Chg.cell (h:Chg F w w') {p:Addr} (hp:p.block< w.heap.size) (hf:¬F p.block):w'.cell? p=w.cell? p:=World.cell?_of_block (h.block p.block hp hf)
end
def Blk (w:World) (g:Nat) (t:TypeId) (cs:Array Value):Prop:=w.heap[g]? =some (.cells cs t (0,0))
section
variable {w w':World} {g:Nat} {t:TypeId} {cs:Array Value} {F:Nat→Prop}
theorem Blk.lt (h:Blk w g t cs):g< w.heap.size:=by
 rcases Nat.lt_or_ge g w.heap.size with hlt | hge
 ·exact hlt
 ·unfold Blk at h;rw[Array.getElem?_eq_none hge] at h;cases h
theorem Blk.cell (h:Blk w g t cs) (i:Nat):w.cell? ⟨g,i,none⟩=cs[i]? :=cell_of_row w g i cs t (0,0) h
theorem Blk.frozen (h:Blk w g t cs) (i:Nat):w.frozen? ⟨g,i,none⟩=false:=by
 unfold Blk at h;simp[World.frozen?,h]
theorem Blk.facts (h:Blk w g t cs):(∀i,w.cell? ⟨g,i,none⟩=cs[i]?)∧(∀i,w.frozen? ⟨g,i,none⟩=false)∧g< w.heap.size:=⟨h.cell,h.frozen,h.lt⟩
theorem Blk.new (w:World) (t:TypeId) (cs:Array Value):Blk (w.alloc (.cells cs t)) w.heap.size t cs:=heap_alloc_new w _
theorem Blk.drew (h:Blk w g t cs):Blk w.drew g t cs:=h
theorem Blk.alloc (h:Blk w g t cs) (o:Obj):Blk (w.alloc o) g t cs:=(Below.heap_alloc w o g h.lt).trans h
theorem Blk.put (h:Blk w g t cs) (i:Nat) (u:Value):Blk (w.setCell ⟨g,i,none⟩ u) g t (cs.setIfInBounds i u):=by
 unfold Blk at h ⊢;simp[World.setCell,Array.getElem?_modify,h]
theorem Blk.chg (h:Blk w g t cs) (hb:Chg F w w') (hg:¬F g):Blk w' g t cs:=(hb.block g h.lt hg).trans h
theorem Blk.grew (h:Blk w g t cs) (hb:Grew w w'):Blk w' g t cs:=h.chg hb id
theorem Blk.grown {row:Option Nat} (h:Blk w g t cs) (hb:w.grownBy w' row) (hg:some g≠row):Blk w' g t cs:=(hb.block g h.lt hg).trans h
theorem Blk.ne_ {g':Nat} {t':TypeId} {cs':Array Value} (h:Blk w g t cs) (h':Blk w g' t' cs') (hne:t≠t'):g≠g':=by
 rintro rfl;unfold Blk at h h';rw[h] at h';injection h' with h';injection h' with _ ht;exact hne ht
end
def Sl (w:World) (s:Nat) (A:Option Addr) (n:Nat) (xs:List Value):Prop:=
 xs.length=n*s∧(0< n→∃b off,A=some ⟨b,off,none⟩∧b< w.heap.size∧∀j u,xs[j]? =some u→w.cell? ⟨b,off+j,none⟩=some u)
section
variable {w w':World} {s n:Nat} {A:Option Addr} {xs:List Value} {F:Nat→Prop}
theorem Sl.nil (w:World) (s:Nat) (A:Option Addr):Sl w s A 0 []:=⟨by simp,fun h=>absurd h (by omega)⟩
theorem Sl.chg (h:Sl w s A n xs) (hc:Chg F w w') (hF:∀a,A=some a→¬F a.block):Sl w' s A n xs:=
 ⟨h.1,fun hn=>by
  obtain⟨b,off,e,hb,hx⟩:=h.2 hn;exact⟨b,off,e,Nat.lt_of_lt_of_le hb hc.size,fun j u hu=>(hc.cell (p:=⟨b,off+j,none⟩) hb (fun f=>hF _ e f)).trans (hx j u hu)⟩⟩
theorem Sl.grew (h:Sl w s A n xs) (hc:Grew w w'):Sl w' s A n xs:=h.chg hc fun _ _=>id
theorem Sl.of_own {base:Nat} {e:TypeId} {c:Nat} (h:w.ownsRow base e s (.slice A n c) n xs):Sl w s A n xs:=by
 refine⟨h.1,fun hn=>?_⟩;rcases h.2 with ⟨hv,h0⟩ | ⟨g,cap,cur,hv,_,hg,_⟩
 ·omega
 ·have hA:A=some ⟨g,0,none⟩:=by injection hv
  subst hA;refine⟨g,0,rfl,(Array.getElem?_eq_some_iff.1 hg).1,fun j u hu=>?_⟩;have:=h.cells (g:=g) rfl j u hu;rw[Addr.add_lit] at this;simpa using this
end
def OwnOut (w w':World) (t:TypeId) (s n:Nat) (xs:List Value) (mk:Option Addr→Nat→Value) (e:Ending):Prop:=∃A c,e= .returned (mk A c)∧w'.ownsRow w.heap.size t s (.slice A n c) n xs∧Grew w w'
theorem OwnOut.mk {w w':World} {t s n:Nat} {xs:List Value} {f:Option Addr→Nat→Value} {e:Ending} (A:Option Addr) (c:Nat) (he:e= .returned (f A c)) (hs:w'.ownsRow w.heap.size t s (.slice A n c) n xs) (hg:Grew w w'):OwnOut w w' t s n xs f e:=⟨A,c,he,hs,hg⟩
theorem own_base {w:World} {base base':Nat} {e:TypeId} {s n:Nat} {v:Value} {xs:List Value} (h:w.ownsRow base e s v n xs) (hb:base'≤base):w.ownsRow base' e s v n xs:=by
 refine⟨h.1,?_⟩;rcases h.2 with hn | ⟨g,cap,cur,hv,hg,r⟩
 ·exact .inl hn
 ·exact .inr ⟨g,cap,cur,hv,Nat.le_trans hb hg,r⟩
theorem own_none {w:World} {base:Nat} {e:TypeId} {s n c:Nat} {xs:List Value} (h:w.ownsRow base e s (.slice none n c) n xs):n=0∧c=0:=by
 rcases h.2 with ⟨h',_⟩ | ⟨g,cap,cur,h',_⟩
 ·cases h';exact⟨rfl,rfl⟩
 ·cases h'
theorem own_some {w:World} {base:Nat} {e:TypeId} {s n c:Nat} {a:Addr} {xs:List Value} (h:w.ownsRow base e s (.slice (some a) n c) n xs):∃g,a=⟨g,0,none⟩∧g< w.heap.size:=by
 rcases h.2 with ⟨h',_⟩ | ⟨g,cap,cur,h',_,hg,_⟩
 ·cases h'
 ·simp at h';exact⟨g,h'.1,(Array.getElem?_eq_some_iff.1 hg).1⟩
theorem own_chg {w w':World} {base:Nat} {e:TypeId} {s n:Nat} {v:Value} {xs:List Value} {F:Nat→Prop} (h:w.ownsRow base e s v n xs) (hc:Chg F w w')
  (hF:∀g,v.ownBlock=some g→¬F g):w'.ownsRow base e s v n xs:=by
 refine⟨h.1,?_⟩;rcases h.2 with hn | ⟨g,cap,cur,rfl,hb,hgg,rest⟩
 ·exact .inl hn
 ·refine .inr ⟨g,cap,cur,rfl,hb,?_,rest⟩
  rw[hc.block g (Array.getElem?_eq_some_iff.1 hgg).1 (hF g rfl)];exact hgg
theorem own_blk_ne {w:World} {base:Nat} {e t:TypeId} {s n g:Nat} {v:Value} {xs:List Value} {cs:Array Value} (h:w.ownsRow base e s v n xs) (hg:Blk w g t cs) (hne:e≠t):v.ownBlock≠some g:=by
 rcases h.2 with ⟨rfl,_⟩ | ⟨g',cap,cur,rfl,_,hh,_⟩
 ·simp[Value.ownBlock]
 ·intro he
  have:g'=g:=by simpa [Value.ownBlock] using he
  subst this;exact Blk.ne_ (t:=e) hh hg hne rfl
theorem own_block {w:World} {base:Nat} {e:TypeId} {s n c:Nat} {A:Option Addr} {xs:List Value} (h:w.ownsRow base e s (.slice A n c) n xs) (hn:0< n):∃g,A=some ⟨g,0,none⟩∧g< w.heap.size:=by
 rcases h.2 with ⟨hv,h0⟩ | ⟨g,cap,cur,hv,_,hg,_⟩
 ·omega
 ·refine⟨g,by injection hv,(Array.getElem?_eq_some_iff.1 hg).1⟩
theorem own_shape {w:World} {base:Nat} {e:TypeId} {s n:Nat} {v:Value} {xs:List Value} (h:w.ownsRow base e s v n xs):∃A c,v= .slice A n c∧n≤c:=by
 rcases h.2 with ⟨rfl,rfl⟩ | ⟨g,cap,cur,rfl,_,_,hc,_⟩
 ·exact⟨_,_,rfl,Nat.le_refl _⟩
 ·exact⟨_,_,rfl,hc⟩
end
section
open Go.RowKit
section
variable {P:Program} {ops:Array Oper} {Q:Exit→Act→World→Prop} {md:Region.Mode} {S:World→Prop} {X:List Nat}
def wpAnyX (P:Program) (md:Region.Mode) (ops:Array Oper) (Q:Exit→Act→World→Prop) (S:World→Prop) (X:List Nat):Nat→Array Bool→Act→World→Prop
 | 0,listed,a,w=>Region.ready md ops listed=[]∧Q .normal a w
 | fuel+1,listed,a,w=>
  (Region.ready md ops listed=[]→Q .normal a w)∧
  ∀i∈Region.ready md ops listed,wpOp P ops Q i (fun a' w'=>(X.contains i=false→S w')∧wpAnyX P md ops Q S X fuel (listed.setIfInBounds i true) a' w') a w
theorem wpAnyX_any:∀ (fuel:Nat) (listed:Array Bool) (a:Act) (w:World),wpAnyX P md ops Q S X fuel listed a w→wpAny P md ops Q fuel listed a w
 | 0,_,_,_,h=>h
 | fuel+1,_,_,_,h=>⟨h.1,fun i hi=>wpOp_mono (fun a' w' h'=>wpAnyX_any fuel _ a' w' h'.2) (h.2 i hi)⟩
def waitsB (md:Region.Mode) (ops:Array Oper) (X:List Nat) (i:Nat):Bool:=X.all fun j=>match ops[j]? with
 | some o=>o.after.any fun e=>Region.binds md e && e.on==i
 | none=>true
theorem waits_no {i j:Nat} {oj:Oper} (h:waitsB md ops X i=true) (hj:ops[j]? =some oj) (hno:∀e∈oj.after,Region.binds md e=true→e.on≠i):X.contains j=false:=by
 cases hc:X.contains j with
 | false=>rfl
 | true=>
  have hm:j∈X:=by simpa using hc
  have h1:=List.all_eq_true.1 h j hm;rw[hj] at h1;obtain⟨e,he,hb⟩:=Array.any_eq_true'.1 h1;simp only[Bool.and_eq_true,beq_iff_eq] at hb;exact absurd hb.2 (hno e he hb.1)
theorem wpAnyX_first {i:Nat} {oi:Oper} {v:Value} (hi:ops[i]? =some oi) (hsel:∀ (j:Nat) (o:Oper) cs b,ops[j]? =some o→o.op≠ .select cs b)
  (hQ:∀c a w,Q (.panic c) (a.put oi.dst v) w→Q (.panic c) a w) (hX:waitsB md ops X i=true) (fuel:Nat):∀ (listed:Array Bool) (a:Act) (w:World),
   (∀j oj,ops[j]? =some oj→j≠i→listed.getD j true=false→(∀e∈oj.after,Region.binds md e=true→e.on≠i)→oi.apart ops oj=true)→
   i∈Region.ready md ops listed→YieldsIf P ops S oi v a→S w→
   wpAnyX P md ops Q S X fuel (listed.setIfInBounds i true) (a.put oi.dst v) w→wpAnyX P md ops Q S X (fuel+1) listed a w:=by
 induction fuel with
 | zero=>
  intro listed a w _ hr hy hS H;refine⟨fun h=>absurd hr (by rw[h];simp),fun j hj=>?_⟩;rcases Nat.decEq j i with hji | hji
  ·have:=ready_mono hj hji
   rw[H.1] at this
   cases this
  ·subst hji
   exact hy.wpOp hi hS ⟨fun _=>hS,H⟩
 | succ fuel ih=>
  intro listed a w hfree hr hy hS H;refine⟨fun h=>absurd hr (by rw[h];simp),fun j hj=>?_⟩;rcases Nat.decEq j i with hji | hji
  ·obtain⟨hun,oj,hoj,hall⟩:=mem_ready.1 hj
   have hiun:=(mem_ready.1 hr).1
   have hnot:∀e∈oj.after,Region.binds md e=true→e.on≠i:=by
    intro e he hb heq;have hl:=hall e he hb;rw[heq] at hl;by_cases hsz:i< listed.size
    ·simp[hsz] at hiun hl;rw[hiun] at hl;cases hl
    ·simp[Array.getElem?_eq_none (Nat.le_of_not_lt hsz)] at hl
   have step:=wpOp_putIf hoj (hfree j oj hoj hji hun hnot) (fun cs b=>hsel i oi cs b hi) (fun cs b=>hsel j oj cs b hoj) hQ hy (H.2 j (ready_mono hj hji));have hnx:=waits_no (X:=X) hX hoj hnot;refine wpOp_mono (fun a' w' h3=>?_) step;have hS':=h3.2.1 hnx
   refine⟨fun _=>hS',ih (listed.setIfInBounds j true) a' w' (fun k ok hk hki hkun hno=>hfree k ok hk hki ?_ hno) (ready_mono hr (Ne.symm hji)) h3.1 hS' (by rw[Array.setIfInBounds_comm _ _ hji];exact h3.2.2)⟩;rcases Nat.decEq j k with hjk | hjk
   ·rwa[getD_set_ne true hjk] at hkun
   ·exact hjk▸hun
  ·subst hji
   exact hy.wpOp hi hS ⟨fun _=>hS,H⟩
theorem wpAnyX_take {i:Nat} {oi:Oper} {v:Value} {fuel:Nat} {listed:Array Bool} {a:Act} {w:World} (hi:ops[i]? =some oi)
  (hs:Region.noSelect ops=true) (hf:Region.free md ops listed i=true) (hr:(Region.ready md ops listed).contains i=true) (hX:waitsB md ops X i=true)
  (hQ:∀c a w,Q (.panic c) (a.put oi.dst v) w→Q (.panic c) a w) (hy:YieldsIf P ops S oi v a) (hS:S w)
  (h:wpAnyX P md ops Q S X fuel (listed.setIfInBounds i true) (a.put oi.dst v) w):wpAnyX P md ops Q S X (fuel+1) listed a w:=
 wpAnyX_first hi (Region.noSelect_spec hs) hQ hX fuel listed a w (Region.free_spec hi hf) (by simpa using hr) hy hS h
def AllReadyX (P:Program) (md:Region.Mode) (ops:Array Oper) (Q:Exit→Act→World→Prop) (S:World→Prop) (X:List Nat) (fuel:Nat) (listed:Array Bool) (a:Act) (w:World) (rs:List Nat):Prop:=
 ∀i∈rs,wpOp P ops Q i (fun a' w'=>(X.contains i=false→S w')∧wpAnyX P md ops Q S X fuel (listed.setIfInBounds i true) a' w') a w
theorem AllReadyX.nil {fuel:Nat} {listed:Array Bool} {a:Act} {w:World}:AllReadyX P md ops Q S X fuel listed a w []:=fun _ h=>absurd h (by simp)
theorem AllReadyX.cons {fuel:Nat} {listed:Array Bool} {a:Act} {w:World} {i:Nat} {o:Oper} {rs:List Nat} (ho:ops[i]? =some o)
  (h:∀K':Act→World→Prop,Shut (∀a w,(X.contains i=false→S w)→wpAnyX P md ops Q S X fuel (listed.setIfInBounds i true) a w→K' a w)→if Region.wanted o (yielded ops a.tmps)=true then Oper.wp P o a w K' Q else K' (a.put o.dst undef) w)
  (hs:AllReadyX P md ops Q S X fuel listed a w rs):AllReadyX P md ops Q S X fuel listed a w (i :: rs):=fun j hj=>by
 rcases List.mem_cons.1 hj with rfl | hj
 ·exact wpOp_step ho (fun K' hK=>h K' (fun a w hS hW=>hK a w ⟨hS,hW⟩))
 ·exact hs j hj
theorem wpAnyX_ready {rs:List Nat} {fuel:Nat} {listed:Array Bool} {a:Act} {w:World} (hr:Region.ready md ops listed=rs) (hne:rs≠[])
  (h:AllReadyX P md ops Q S X fuel listed a w rs):wpAnyX P md ops Q S X (fuel+1) listed a w:=⟨fun h0=>absurd (hr▸h0) hne,hr▸h⟩
theorem wpAnyX_done {listed:Array Bool} {a:Act} {w:World} (hr:Region.ready md ops listed=[]) (h:Q .normal a w):∀fuel,wpAnyX P md ops Q S X fuel listed a w
 | 0=>⟨hr,h⟩
 | _+1=>⟨fun _=>h,by rw[hr];simp⟩
theorem wp_region_x (X:List Nat) {id:Nat} {a:Act} {w:World} (hm:P.follows .mixedOrders=true) (hS:S w.drew)
  (h:S w.drew→wpAnyX P .any ops Q S X ops.size (Array.replicate ops.size false) a w.drew):(Code.region id ops true).wp P Q a w:=
 wp_region_any hm (wpAnyX_any _ _ _ _ (h hS))
end
end
section
open Go.RowKit
section
variable {P:Program} {ops:Array Oper} {Q:Exit→Act→World→Prop} {md:Region.Mode} {S:World→Prop} {X:List Nat}
def waitsM (md:Region.Mode) (ops:Array Oper) (X M:List Nat) (i:Nat):Bool:=X.all fun j=>match ops[j]? with
 | some o=>o.after.any fun e=>Region.binds md e && (e.on==i || M.contains e.on)
 | none=>true
theorem wpAnyX_firstM {i:Nat} {oi:Oper} {v:Value} {M:List Nat} (hi:ops[i]? =some oi) (hsel:∀ (j:Nat) (o:Oper) cs b,ops[j]? =some o→o.op≠ .select cs b)
  (hQ:∀c a w,Q (.panic c) (a.put oi.dst v) w→Q (.panic c) a w) (hX:waitsM md ops X M i=true) (hM:waitsB md ops M i=true) (fuel:Nat):∀ (listed:Array Bool) (a:Act) (w:World),
   (∀j oj,ops[j]? =some oj→j≠i→listed.getD j true=false→(∀e∈oj.after,Region.binds md e=true→e.on≠i)→oi.apart ops oj=true)→
   (∀k∈M,listed.getD k true=false)→
   i∈Region.ready md ops listed→YieldsIf P ops S oi v a→S w→
   wpAnyX P md ops Q S X fuel (listed.setIfInBounds i true) (a.put oi.dst v) w→wpAnyX P md ops Q S X (fuel+1) listed a w:=by
 induction fuel with
 | zero=>
  intro listed a w _ _ hr hy hS H;refine⟨fun h=>absurd hr (by rw[h];simp),fun j hj=>?_⟩;rcases Nat.decEq j i with hji | hji
  ·have:=ready_mono hj hji
   rw[H.1] at this
   cases this
  ·subst hji
   exact hy.wpOp hi hS ⟨fun _=>hS,H⟩
 | succ fuel ih=>
  intro listed a w hfree hml hr hy hS H;refine⟨fun h=>absurd hr (by rw[h];simp),fun j hj=>?_⟩;rcases Nat.decEq j i with hji | hji
  ·obtain⟨hun,oj,hoj,hall⟩:=mem_ready.1 hj
   have hiun:=(mem_ready.1 hr).1
   have hnot:∀e∈oj.after,Region.binds md e=true→e.on≠i:=by
    intro e he hb heq;have hl:=hall e he hb;rw[heq] at hl;by_cases hsz:i< listed.size
    ·simp[hsz] at hiun hl;rw[hiun] at hl;cases hl
    ·simp[Array.getElem?_eq_none (Nat.le_of_not_lt hsz)] at hl
   have hnotM:∀e∈oj.after,Region.binds md e=true→e.on∉M:=by
    intro e he hb hm;have hl:=hall e he hb;have hun':=hml _ hm;by_cases hsz:e.on< listed.size
    ·simp[hsz] at hun' hl;rw[hun'] at hl;cases hl
    ·simp[Array.getElem?_eq_none (Nat.le_of_not_lt hsz)] at hl
   have hjM:j∉M:=fun hm=>by
    have h1:=List.all_eq_true.1 hM j hm;rw[hoj] at h1;obtain⟨e,he,hb⟩:=Array.any_eq_true'.1 h1;simp only[Bool.and_eq_true,beq_iff_eq] at hb;exact hnot e he hb.1 hb.2
   have step:=wpOp_putIf hoj (hfree j oj hoj hji hun hnot) (fun cs b=>hsel i oi cs b hi) (fun cs b=>hsel j oj cs b hoj) hQ hy (H.2 j (ready_mono hj hji))
   have hnx:X.contains j=false:=by
    cases hc:X.contains j with
    | false=>rfl
    | true=>
     have h1:=List.all_eq_true.1 hX j (by simpa using hc);rw[hoj] at h1;obtain⟨e,he,hb⟩:=Array.any_eq_true'.1 h1;simp only[Bool.and_eq_true,Bool.or_eq_true,beq_iff_eq] at hb;rcases hb.2 with e2 | e2
     ·exact absurd e2 (hnot e he hb.1)
     ·exact absurd (by simpa using e2) (hnotM e he hb.1)
   refine wpOp_mono (fun a' w' h3=>?_) step;have hS':=h3.2.1 hnx;refine⟨fun _=>hS',ih (listed.setIfInBounds j true) a' w' (fun k ok hk hki hkun hno=>hfree k ok hk hki ?_ hno) (fun k hk=>?_) (ready_mono hr (Ne.symm hji)) h3.1 hS' (by rw[Array.setIfInBounds_comm _ _ hji];exact h3.2.2)⟩
   ·rcases Nat.decEq j k with hjk | hjk
    ·rwa[getD_set_ne true hjk] at hkun
    ·exact hjk▸hun
   ·have hjk:j≠k:=fun e=>hjM (e▸hk)
    rw[getD_set_ne true hjk];exact hml k hk
  ·subst hji
   exact hy.wpOp hi hS ⟨fun _=>hS,H⟩
theorem wpAnyX_takeM (M:List Nat) {i:Nat} {oi:Oper} {v:Value} {fuel:Nat} {listed:Array Bool} {a:Act} {w:World} (hi:ops[i]? =some oi)
  (hs:Region.noSelect ops=true) (hf:Region.free md ops listed i=true) (hr:(Region.ready md ops listed).contains i=true) (hX:waitsM md ops X M i=true) (hM:waitsB md ops M i=true) (hml:(M.all fun k=>listed.getD k true==false)=true)
  (hQ:∀c a w,Q (.panic c) (a.put oi.dst v) w→Q (.panic c) a w) (hy:YieldsIf P ops S oi v a) (hS:S w)
  (h:wpAnyX P md ops Q S X fuel (listed.setIfInBounds i true) (a.put oi.dst v) w):wpAnyX P md ops Q S X (fuel+1) listed a w:=
 wpAnyX_firstM hi (Region.noSelect_spec hs) hQ hX hM fuel listed a w (Region.free_spec hi hf) (fun k hk=>by simpa using List.all_eq_true.1 hml k hk) (by simpa using hr) hy hS h
end
end
section
open Go.RowKit
section
variable {P:Program} {ops:Array Oper} {Q:Exit→Act→World→Prop} {md:Region.Mode} {S:World→Prop} {X X':List Nat}
theorem wpAnyX_mono (h:∀i,X'.contains i=true→X.contains i=true):∀ (fuel:Nat) (listed:Array Bool) (a:Act) (w:World),wpAnyX P md ops Q S X' fuel listed a w→wpAnyX P md ops Q S X fuel listed a w
 | 0,_,_,_,H=>H
 | fuel+1,_,_,_,H=>⟨H.1,fun i hi=>wpOp_mono (fun a' w' h'=>⟨fun e=>h'.1 (by
   cases hc:X'.contains i with
   | false=>rfl
   | true=>rw[h i hc] at e;cases e),wpAnyX_mono h fuel _ a' w' h'.2⟩) (H.2 i hi)⟩
theorem wpAnyX_firstP {i:Nat} {oi:Oper} {v:Value} (hi:ops[i]? =some oi) (hsel:∀ (j:Nat) (o:Oper) cs b,ops[j]? =some o→o.op≠ .select cs b)
  (hQ:∀c a w,Q (.panic c) (a.put oi.dst v) w→Q (.panic c) a w) (hXi:X.contains i=true) (fuel:Nat):∀ (listed:Array Bool) (a:Act) (w:World),
   (∀j oj,ops[j]? =some oj→j≠i→listed.getD j true=false→(∀e∈oj.after,Region.binds md e=true→e.on≠i)→oi.apart ops oj=true)→
   i∈Region.ready md ops listed→YieldsIf P ops (fun _=>True) oi v a→
   wpAnyX P md ops Q S X fuel (listed.setIfInBounds i true) (a.put oi.dst v) w→wpAnyX P md ops Q S X (fuel+1) listed a w:=by
 induction fuel with
 | zero=>
  intro listed a w _ hr hy H;refine⟨fun h=>absurd hr (by rw[h];simp),fun j hj=>?_⟩;rcases Nat.decEq j i with hji | hji
  ·have:=ready_mono hj hji
   rw[H.1] at this
   cases this
  ·subst hji
   exact hy.wpOp hi trivial ⟨fun e=>by(rw[hXi] at e;cases e),H⟩
 | succ fuel ih=>
  intro listed a w hfree hr hy H;refine⟨fun h=>absurd hr (by rw[h];simp),fun j hj=>?_⟩;rcases Nat.decEq j i with hji | hji
  ·obtain⟨hun,oj,hoj,hall⟩:=mem_ready.1 hj
   have hiun:=(mem_ready.1 hr).1
   have hnot:∀e∈oj.after,Region.binds md e=true→e.on≠i:=by
    intro e he hb heq;have hl:=hall e he hb;rw[heq] at hl;by_cases hsz:i< listed.size
    ·simp[hsz] at hiun hl;rw[hiun] at hl;cases hl
    ·simp[Array.getElem?_eq_none (Nat.le_of_not_lt hsz)] at hl
   have step:=wpOp_putIf hoj (hfree j oj hoj hji hun hnot) (fun cs b=>hsel i oi cs b hi) (fun cs b=>hsel j oj cs b hoj) hQ hy (H.2 j (ready_mono hj hji));refine wpOp_mono (fun a' w' h3=>?_) step
   refine⟨h3.2.1,ih (listed.setIfInBounds j true) a' w' (fun k ok hk hki hkun hno=>hfree k ok hk hki ?_ hno) (ready_mono hr (Ne.symm hji)) h3.1 (by rw[Array.setIfInBounds_comm _ _ hji];exact h3.2.2)⟩;rcases Nat.decEq j k with hjk | hjk
   ·rwa[getD_set_ne true hjk] at hkun
   ·exact hjk▸hun
  ·subst hji
   exact hy.wpOp hi trivial ⟨fun e=>by(rw[hXi] at e;cases e),H⟩
theorem wpAnyX_takeP {i:Nat} {oi:Oper} {v:Value} {fuel:Nat} {listed:Array Bool} {a:Act} {w:World} (hi:ops[i]? =some oi)
  (hs:Region.noSelect ops=true) (hf:Region.free md ops listed i=true) (hr:(Region.ready md ops listed).contains i=true) (hXi:X.contains i=true)
  (hQ:∀c a w,Q (.panic c) (a.put oi.dst v) w→Q (.panic c) a w) (hy:YieldsIf P ops (fun _=>True) oi v a)
  (h:wpAnyX P md ops Q S X fuel (listed.setIfInBounds i true) (a.put oi.dst v) w):wpAnyX P md ops Q S X (fuel+1) listed a w:=
 wpAnyX_firstP hi (Region.noSelect_spec hs) hQ hXi fuel listed a w (Region.free_spec hi hf) (by simpa using hr) hy h
end
end
section
open Go.RowKit
def isBook:Obj→Bool | .loop _=>true | .deferred _=>true | .mapIter .. =>true | _=>false
def Book (W:World):Nat→Prop:=fun k=>∃o,W.heap[k]? =some o∧isBook o=true
section
variable {w w' W W':World} {g l D:Nat} {t:TypeId} {cs:Array Value} {F:Nat→Prop} {r:Loop}
theorem Blk.noBook (h:Blk w g t cs):¬Book w g:=by
 rintro⟨o,ho,hb⟩;unfold Blk at h;rw[h] at ho
 cases ho
 cases hb
theorem noBook_of_cell {a:Addr} {v:Value} (h:w.cell? a=some v):¬Book w a.block:=by
 rintro⟨o,ho,hb⟩
 cases o<;>simp[isBook] at hb<;>simp[World.cell?,ho] at h
theorem own_noBook {base:Nat} {e:TypeId} {s n:Nat} {v:Value} {xs:List Value} (h:w.ownsRow base e s v n xs) {g:Nat} (hg:v.ownBlock=some g):¬Book w g:=by
 rintro⟨o,ho,hb⟩;rcases h.2 with ⟨rfl,_⟩ | ⟨g',cap,cur,rfl,_,hh,_⟩
 ·simp[Value.ownBlock] at hg
 ·have:g'=g:=by simpa [Value.ownBlock] using hg
  subst this;rw[hh] at ho
  cases ho
  cases hb
theorem own_grew {base:Nat} {e:TypeId} {s n:Nat} {v:Value} {xs:List Value} (h:w.ownsRow base e s v n xs) (hc:Grew w w'):w'.ownsRow base e s v n xs:=own_chg h hc fun _ _ h=>h
def Rec (W:World) (l:Nat) (r:Loop):Prop:=W.heap[l]? =some (.loop r)
def Dfr (W:World) (D:Nat):Prop:=W.heap[D]? =some (.deferred (some []))
theorem Rec.lt (h:Rec W l r):l< W.heap.size:=(Array.getElem?_eq_some_iff.1 h).1
theorem Dfr.lt (h:Dfr W D):D< W.heap.size:=(Array.getElem?_eq_some_iff.1 h).1
theorem Rec.chg (h:Rec W l r) (hc:Chg F W W') (hf:¬F l):Rec W' l r:=(hc.block l h.lt hf).trans h
theorem Dfr.chg (h:Dfr W D) (hc:Chg F W W') (hf:¬F D):Dfr W' D:=(hc.block D h.lt hf).trans h
theorem Rec.grew (h:Rec W l r) (hc:Grew W W'):Rec W' l r:=h.chg hc id
theorem Dfr.grew (h:Dfr W D) (hc:Grew W W'):Dfr W' D:=h.chg hc id
theorem Rec.isBook (h:Rec W l r):Book W l:=⟨_,h,rfl⟩
theorem Dfr.isBook (h:Dfr W D):Book W D:=⟨_,h,rfl⟩
theorem Rec.ne_blk (h:Rec W l r) (hb:Blk W g t cs):l≠g:=by rintro rfl;exact hb.noBook h.isBook
theorem Dfr.ne_blk (h:Dfr W D) (hb:Blk W g t cs):D≠g:=by rintro rfl;exact hb.noBook h.isBook
theorem Rec.ne_dfr (h:Rec W l r) (hb:Dfr W D):l≠D:=by
 rintro rfl;unfold Rec Dfr at*;rw[h] at hb
 cases hb
theorem Chg.putObj (h:Chg F w W) (hl:l< w.heap.size→F l) (o:Obj):Chg F w (W.putObj l o):=
 ⟨h.os,h.tape,h.output,by simpa using h.size,fun k hk hf=>(World.putObj_heap_other (by rintro rfl;exact hf (hl hk))).trans (h.block k hk hf)⟩
structure Kept (l:Nat) (W W':World):Prop where
 chg:Chg (fun j=>j=l) W W'
 book:Book W l
theorem Kept.putObj (h:Book W l) (o:Obj):Kept l W (W.putObj l o):=⟨(Chg.refl (fun j=>j=l) W).putObj (fun _=>rfl) o,h⟩
theorem Blk.kept (h:Blk W g t cs) (hk:Kept l W W'):Blk W' g t cs:=h.chg hk.chg (by rintro rfl;exact h.noBook hk.book)
theorem Sl.kept {s n:Nat} {A:Option Addr} {xs:List Value} (h:Sl W s A n xs) (hk:Kept l W W'):Sl W' s A n xs:=
 ⟨h.1,fun hn=>by
  obtain⟨b,off,e,hb,hx⟩:=h.2 hn;refine⟨b,off,e,Nat.lt_of_lt_of_le hb hk.chg.size,fun j u hu=>?_⟩;have:=hx j u hu;exact(hk.chg.cell (p:=⟨b,off+j,none⟩) hb (by intro e;exact noBook_of_cell this (e▸hk.book))).trans this⟩
theorem own_kept {base:Nat} {e:TypeId} {s n:Nat} {v:Value} {xs:List Value} (h:W.ownsRow base e s v n xs) (hk:Kept l W W'):W'.ownsRow base e s v n xs:=
 own_chg h hk.chg fun _ hg=>by rintro rfl;exact own_noBook h hg hk.book
theorem Dfr.kept (h:Dfr W D) (hk:Kept l W W') (hl:D≠l):Dfr W' D:=h.chg hk.chg hl
theorem Rec.kept {l':Nat} (h:Rec W l' r) (hk:Kept l W W') (hl:l'≠l):Rec W' l' r:=h.chg hk.chg hl
theorem Chg.kept (h:Chg F w W) (hk:Kept l W W') (hl:w.heap.size≤l):Chg F w W':=Chg.trans h hk.chg fun i hi e=>by omega
theorem Rec.alloc (h:Rec W l r) (o:Obj):Rec (W.alloc o) l r:=h.grew ((Chg.refl _ _).alloc _)
theorem Dfr.alloc (h:Dfr W D) (o:Obj):Dfr (W.alloc o) D:=h.grew ((Chg.refl _ _).alloc _)
theorem Rec.put (h:Rec W l r) (r':Loop):Rec (W.putObj l (.loop r')) l r':=World.putObj_heap_same h.lt
end
section
variable {P:Program}
def Loop.at_ (r:Loop) (s:LoopState) (p:Option Code):Loop:= { r with state:=s,pending:=p }
def rangeEnd (P:Program) (l:Nat) (r:Loop) (Q:Exit→Act→World→Prop) (a:Act) (w3:World):Prop:=
 (Rec w3 l (Loop.at_ r .ready none)∧∀w4,Kept l w3 w4→Q .normal a w4)∨
 ∃c,Rec w3 l (Loop.at_ r .done (some c))∧∀w4,Kept l w3 w4→c.wp P Q a w4
theorem wp_range {g:Operand} {ps:Array Tmp} {assign body:Code} {Q:Exit→Act→World→Prop} {a:Act} {w:World} {gf:FuncId} {lb:Array Value}
  (hg:a.eval g= .func (.func gf) #[] lb) (eg:∀args w,(callFunc gf args).run P w= .ok (.enter gf args) w)
  (h:∀ (r:Loop) (W1:World) (D L:Nat),(r.tmps=a.tmps∧r.params=ps∧r.assign=assign∧r.body=body)→Grew w W1→w.heap.size≤D→w.heap.size≤L→Dfr W1 D→Rec W1 L (Loop.at_ r .ready none)→
   Calls P gf (#[.func (.yield L) #[] #[]]++lb) W1 fun e w3=>(∃v,e= .returned v)∧
    rangeEnd P L r Q { a with defers:= { target:= .collected D,args:= #[] } :: a.defers } w3) :
  (Code.rangeFunc g ps assign body).wp P Q a w:=by
 refine(wpIn_wide (n:=0)).1 (wpIn_rangeFunc ?_);intro fn _;let r:Loop:= { state:= .ready,pending:=none,fn,tmps:=a.tmps,params:=ps,assign,body,defers:=w.heap.size }
 obtain⟨W1,hW1⟩:∃W1,(w.alloc (.deferred (some []))).alloc (.loop r)=W1:=⟨_,rfl⟩
 have hL1:W1.heap[w.heap.size+1]? =some (.loop r):=by
  rw[←hW1];have:=World.alloc_heap_new (w.alloc (.deferred (some []))) (.loop r);rwa[World.size_alloc] at this
 have hK1:W1.heap[w.heap.size]? =some (.deferred (some [])):=by
  rw[←hW1];exact(Below.heap_alloc _ _ _ (by simp)).trans (World.alloc_heap_new w _)
 refine⟨w.heap.size+1,[{ target:= .collected w.heap.size,args:= #[] }],W1, { target:= .fn (.func gf) lb,args:= #[.func (.yield (w.heap.size+1)) #[] #[]] },W1,gf,
  #[.func (.yield (w.heap.size+1)) #[] #[]]++lb,W1,?_,?_,fun _ _=>trivial,?_,(fun h=>by cases h),?_⟩
 ·rw[←hW1];exact run_enterLoop_outer _ _ _ _ _
 ·simp only[resolve,hg]
  simp[go_sem]
 ·simp[invoke,go_sem,eg]
 ·refine callsIn_wide.2 ((h r W1 w.heap.size (w.heap.size+1) ⟨rfl,rfl,rfl,rfl⟩ (by rw[←hW1];exact((Chg.refl _ _).alloc _).alloc _) (Nat.le_refl _) (Nat.le_succ _) hK1 hL1).mono ?_)
  rintro e w3 ⟨⟨v,rfl⟩,⟨hr,hq⟩ | ⟨c,hr,hq⟩⟩
  ·exact⟨none,_,run_endLoop hr (by simp[Loop.at_]),hq _ (Kept.putObj hr.isBook _)⟩
  ·exact⟨some c,_,run_endLoop hr (by simp[Loop.at_]),wpIn_wide.2 (hq _ (Kept.putObj hr.isBook _))⟩
def roundEnd (l:Nat) (r:Loop) (R:Ending→World→Prop):Exit→Act→World→Prop
 | .normal,_,w=>Rec w l (Loop.at_ r .busy none)∧∀w',Kept l w w'→Rec w' l (Loop.at_ r .ready none)→R (.returned (.bool true)) w'
 | .ret,_,w=>Rec w l (Loop.at_ r .busy none)∧∀w',Kept l w w'→Rec w' l (Loop.at_ r .done (some .ret))→R (.returned (.bool false)) w'
 | .exit id,_,w=>Rec w l (Loop.at_ r .busy none)∧∀w',Kept l w w'→Rec w' l (Loop.at_ r .done (some (.exit id)))→R (.returned (.bool false)) w'
 | .goto t,_,w=>Rec w l (Loop.at_ r .busy none)∧∀w',Kept l w w'→Rec w' l (Loop.at_ r .done (some (.goto t)))→R (.returned (.bool false)) w'
 | .panic _,_,_=>False
 | .outgrown,_,_=>False
theorem yield_wide {l n:Nat} {r:Loop} {W:World} {args:Array Value} {R:Ending→World→Prop} (hl:Rec W l (Loop.at_ r .ready none)) (hs:args.size=r.params.size)
  (h:∀K:Act→World→Prop,(∀a1 W1,Rec W1 l (Loop.at_ r .ready none)→(∀ (W2:World) (Q:Exit→Act→World→Prop),Kept l W1 W2→Rec W2 l (Loop.at_ r .busy none)→(∀e a w,roundEnd l r R e a w→Q e a w)→
    r.body.wpIn (Fence.wide.inRound l) n P Q a1 W2)→K a1 W1)→r.assign.wpIn (Fence.wide.inRound l) n P (Exit.then K (fun _ _ _=>False))
   { tmps:=(r.params.zip args).foldl (fun t (p,v)=>t.setIfInBounds p v) r.tmps,defers:=[] } W) :
  YieldAt Fence.wide n P l args W R:=by
 refine⟨_,_,_,_,run_yield hl hs,roundIn_of_wpIn trivial (h _ fun a1 W1 hl1 hb=>?_)⟩;refine⟨_,run_beginRound hl1 rfl,hb _ _ (Kept.putObj hl1.isBook _) (hl1.put _) ?_⟩;intro e a2 W3 hq3
 cases e with
 | normal=>exact⟨_,_,run_endRound none hq3.1,hq3.2 _ (Kept.putObj hq3.1.isBook _) (hq3.1.put _)⟩
 | ret=>exact⟨_,_,run_endRound (some .ret) hq3.1,hq3.2 _ (Kept.putObj hq3.1.isBook _) (hq3.1.put _)⟩
 | exit id=>exact⟨_,_,run_endRound (some (.exit id)) hq3.1,hq3.2 _ (Kept.putObj hq3.1.isBook _) (hq3.1.put _)⟩
 | goto t=>exact⟨_,_,run_endRound (some (.goto t)) hq3.1,hq3.2 _ (Kept.putObj hq3.1.isBook _) (hq3.1.put _)⟩
 | panic ch=>exact hq3.elim
 | outgrown=>exact hq3.elim
def Marks:List Deferred→World→World→Prop
 | [],w,w'=>w=w'
 | d :: ds,w,w'=>∃D,d.target= .collected D∧Dfr w D∧Marks ds (w.putObj D (.deferred none)) w'
def postM (P:Program) (fn:Func) (R:Ending→World→Prop):Exit→Act→World→Prop
 | .normal,a,w | .ret,a,w=>∃w',Marks a.defers w w'∧∃v,(results fn a.tmps).run P w'= .ok v w'∧R (.returned v) w'
 | .outgrown,_,w=>R .outgrown w
 | _,_,_=>False
theorem leavesM {fn:Func} {tmps:Array Value} {R:Ending→World→Prop}:∀ (ds:List Deferred) (w w':World),Marks ds w w'→(∃v,(results fn tmps).run P w'= .ok v w'∧R (.returned v) w')→LeavesInM Fence.wide 0 P fn tmps R ds .returning w
 | [],w,w',h,hr=>by obtain rfl:=h;exact hr
 | d :: ds,w,w',⟨D,ht,hd,hm⟩,hr=>⟨by simp,.inl ⟨D,_,ht,run_takeDeferred hd,leavesM ds _ w' hm hr⟩⟩
theorem calls_of_marks {f:FuncId} {fn:Func} {c:Code} {args:Array Value} {w:World} {R:Ending→World→Prop}
  (hf:P.funcs[f]? =some fn) (hb:fn.body=some c)
  (h:c.wp P (postM P fn R) { tmps:=args++Array.replicate (fn.ntmps - args.size) undef,defers:=[] } w):Calls P f args w R:=by
 refine callsIn_wide.1 (callsIn_of_wp_marks (n:=0) hf hb trivial (wpIn_wide.2 (wp_mono h ?_)) rfl);intro e a w1 hq
 cases e with
 | normal=>obtain⟨w',hm,hv⟩:=hq;exact leavesM _ _ _ hm hv
 | ret=>obtain⟨w',hm,hv⟩:=hq;exact leavesM _ _ _ hm hv
 | exit id=>exact hq.elim
 | goto t=>exact hq.elim
 | panic ch=>exact hq.elim
 | outgrown=>exact hq
theorem postM_ret1 {fn:Func} {R:Ending→World→Prop} {a:Act} {w:World} {v:Value} {D:Nat} (hD:Dfr w D) (hd:a.defers=[{ target:= .collected D,args:= #[] }]) (hr:∀w',Kept D w w'→(results fn a.tmps).run P w'= .ok v w'∧R (.returned v) w'):postM P fn R .ret a w:=
 ⟨_,by rw[hd];exact⟨D,rfl,hD,rfl⟩,v,hr _ (Kept.putObj hD.isBook _)⟩
end
section
variable {P:Program} {n L:Nat} {ops:Array Oper} {Q:Exit→Act→World→Prop} {md:Region.Mode}
end
end
section
open Go.RowKit
section
variable {P:Program} {n L:Nat} {ops:Array Oper} {Q:Exit→Act→World→Prop} {md:Region.Mode} {S:World→Prop}
end
end
section
open Go.RowKit
section
variable {P:Program} {n:Nat} {ops:Array Oper} {Q:Exit→Act→World→Prop} {md:Region.Mode} {S:World→Prop}
def wpAnyInH (P:Program) (n:Nat) (md:Region.Mode) (ops:Array Oper) (Q:Exit→Act→World→Prop) (S:World→Prop):Nat→Array Bool→Act→World→Prop
 | 0,listed,a,w=>Region.ready md ops listed=[]∧Q .normal a w
 | fuel+1,listed,a,w=>
  (Region.ready md ops listed=[]→Q .normal a w)∧
  ∀i∈Region.ready md ops listed,wpOpIn Fence.wide n P ops Q i (fun a' w'=>S w'∧wpAnyInH P n md ops Q S fuel (listed.setIfInBounds i true) a' w') a w
theorem wpAnyInH_any:∀ (fuel:Nat) (listed:Array Bool) (a:Act) (w:World),wpAnyInH P n md ops Q S fuel listed a w→wpAnyIn Fence.wide n P md ops Q fuel listed a w
 | 0,_,_,_,h=>h
 | fuel+1,_,_,_,h=>⟨h.1,fun i hi=>wpOpIn_mono (fun a' w' h'=>wpAnyInH_any fuel _ a' w' h'.2) (h.2 i hi)⟩
def YIn (P:Program) (ops:Array Oper) (S:World→Prop) (o:Oper) (v:Value) (a:Act):Prop:=YieldsIf P ops S o v a∧∀w,o.about P w a.eval=none
theorem YIn.op {i:Nat} {o:Oper} {v:Value} {a:Act} (hi:ops[i]? =some o) (hy:YIn P ops S o v a) {K:Act→World→Prop} {w:World} (hS:S w) (h:K (a.put o.dst v) w):wpOpIn Fence.wide n P ops Q i K a w:=by
 unfold Go.wpOpIn;simp only[hi];have hab:∀f,o.about P w a.eval=some f→Fence.wide.fn f:=fun f hf=>by rw[hy.2 w] at hf;cases hf
 rcases hy.1 with ⟨hw,hv⟩ | ⟨hw,rfl⟩
 ·simp only[hw,if_true,Oper.wpIn,show(Fence.wide).round=none from rfl,Oper.semAt_none,hv w hS,Oper.uponIn];exact⟨hab,h⟩
 ·simp only[hw,Bool.false_eq_true,if_false];exact⟨hab,h⟩
theorem YIn.same {o:Oper} {v:Value} {a a':Act} (hy:YIn P ops S o v a) (he:execOp a'.eval o=execOp a.eval o) (hw:Region.wanted o (yielded ops a'.tmps)=Region.wanted o (yielded ops a.tmps)) (hb:∀w,o.about P w a'.eval=o.about P w a.eval):YIn P ops S o v a':=
 ⟨hy.1.of_same he hw,fun w=>by rw[hb w];exact hy.2 w⟩
theorem wpOpIn_putH {j:Nat} {oi oj:Oper} {v:Value} (hj:ops[j]? =some oj) (hap:oi.apart ops oj=true) (hsi:∀cs b,oi.op≠ .select cs b) (hsj:∀cs b,oj.op≠ .select cs b)
  (hQ:∀c a w,Q (.panic c) (a.put oi.dst v) w→Q (.panic c) a w) {K:Act→World→Prop} {a:Act} {w:World} (hy:YIn P ops S oi v a) (h:wpOpIn Fence.wide n P ops Q j K (a.put oi.dst v) w) :
  wpOpIn Fence.wide n P ops Q j (fun a' w'=>YIn P ops S oi v a'∧K (a'.put oi.dst v) w') a w:=by
 have hro:(Fence.wide).round=none:=rfl;obtain⟨h1,h2,h3⟩:=Oper.apart_spec hap;have keep:∀ (a:Act),YIn P ops S oi v a→∀u,YIn P ops S oi v (a.put oj.dst u):=fun a hy u=>hy.same (execOp_put oi hsi a oj.dst u h3) (wanted_put oi a oj.dst u h3) (fun w=>about_put oi w a oj.dst u h3)
 have keepD:∀d,YIn P ops S oi v { a with defers:=d :: a.defers }:=fun d=>hy.same rfl rfl (fun _=>rfl);unfold wpOpIn at*;simp only[hj] at*;rw[wanted_put oj a oi.dst v h1,about_put oj w a oi.dst v h1] at h;split
 ·rename_i hw
  simp only[hw,if_true] at h;unfold Oper.wpIn at*;rw[about_put oj w a oi.dst v h1] at h;refine⟨h.1,?_⟩;have h:=h.2;rw[hro,Oper.semAt_none,execOp_put oj hsj a oi.dst v h1] at h;rw[hro,Oper.semAt_none];generalize (execOp a.eval oj).run P w=r at*
  cases r with
  | ok x w'=>
   cases x<;>simp only[Oper.uponIn] at h ⊢
   case value u=>exact⟨keep a hy u,by rw[←Act.put_comm a v u h2];exact h⟩
   case skip=>exact⟨keep a hy _,by rw[←Act.put_comm a v undef h2];exact h⟩
   case defer d=>
    refine⟨keep _ (keepD d) _,?_⟩;rw[←Act.put_comm _ v undef h2,←Act.put_defers];exact h
   case enter f args=>
    refine⟨h.1,CallsIn.mono h.2 fun e w'' he=>?_⟩
    cases e with
    | returned u=>exact⟨keep a hy u,by rw[←Act.put_comm a v u h2];exact he⟩
    | panicked c=>exact hQ _ _ _ he
    | outgrown=>exact he
   case row row args=>exact⟨h.1,RowsIn.mono h.2 fun u w'' he=>⟨keep a hy u,by rw[←Act.put_comm a v u h2];exact he⟩⟩
   case round l f tmps assign body=>
    refine⟨h.1,RoundIn.mono h.2 fun e w'' he=>?_⟩
    cases e with
    | returned u=>exact⟨keep a hy u,by rw[←Act.put_comm a v u h2];exact he⟩
    | panicked c=>exact hQ _ _ _ he
    | outgrown=>exact he
  | halt x w'=>
   cases x<;>simp only[Oper.uponIn] at h ⊢
   case panic u=>exact hQ _ _ _ h
 ·rename_i hw
  simp only[hw] at h;exact⟨h.1,keep a hy _,by rw[←Act.put_comm a v undef h2];exact h.2⟩
theorem wpAnyInH_first {i:Nat} {oi:Oper} {v:Value} (hi:ops[i]? =some oi) (hsel:∀ (j:Nat) (o:Oper) cs b,ops[j]? =some o→o.op≠ .select cs b)
  (hQ:∀c a w,Q (.panic c) (a.put oi.dst v) w→Q (.panic c) a w) (fuel:Nat):∀ (listed:Array Bool) (a:Act) (w:World),
   (∀j oj,ops[j]? =some oj→j≠i→listed.getD j true=false→(∀e∈oj.after,Region.binds md e=true→e.on≠i)→oi.apart ops oj=true)→
   i∈Region.ready md ops listed→YIn P ops S oi v a→S w→
   wpAnyInH P n md ops Q S fuel (listed.setIfInBounds i true) (a.put oi.dst v) w→wpAnyInH P n md ops Q S (fuel+1) listed a w:=by
 induction fuel with
 | zero=>
  intro listed a w _ hr hy hS H;refine⟨fun h=>absurd hr (by rw[h];simp),fun j hj=>?_⟩;rcases Nat.decEq j i with hji | hji
  ·have:=ready_mono hj hji
   rw[H.1] at this
   cases this
  ·subst hji
   exact hy.op hi hS ⟨hS,H⟩
 | succ fuel ih=>
  intro listed a w hfree hr hy hS H;refine⟨fun h=>absurd hr (by rw[h];simp),fun j hj=>?_⟩;rcases Nat.decEq j i with hji | hji
  ·obtain⟨hun,oj,hoj,hall⟩:=mem_ready.1 hj
   have hiun:=(mem_ready.1 hr).1
   have hnot:∀e∈oj.after,Region.binds md e=true→e.on≠i:=by
    intro e he hb heq;have hl:=hall e he hb;rw[heq] at hl;by_cases hsz:i< listed.size
    ·simp[hsz] at hiun hl;rw[hiun] at hl;cases hl
    ·simp[Array.getElem?_eq_none (Nat.le_of_not_lt hsz)] at hl
   have step:=wpOpIn_putH hoj (hfree j oj hoj hji hun hnot) (fun cs b=>hsel i oi cs b hi) (fun cs b=>hsel j oj cs b hoj) hQ hy (H.2 j (ready_mono hj hji));refine wpOpIn_mono (fun a' w' h3=>?_) step
   refine⟨h3.2.1,ih (listed.setIfInBounds j true) a' w' (fun k ok hk hki hkun hno=>hfree k ok hk hki ?_ hno) (ready_mono hr (Ne.symm hji)) h3.1 h3.2.1 (by rw[Array.setIfInBounds_comm _ _ hji];exact h3.2.2)⟩;rcases Nat.decEq j k with hjk | hjk
   ·rwa[getD_set_ne true hjk] at hkun
   ·exact hjk▸hun
  ·subst hji
   exact hy.op hi hS ⟨hS,H⟩
theorem wpAnyInH_take {i:Nat} {oi:Oper} {v:Value} {fuel:Nat} {listed:Array Bool} {a:Act} {w:World} (hi:ops[i]? =some oi)
  (hs:Region.noSelect ops=true) (hf:Region.free md ops listed i=true) (hr:(Region.ready md ops listed).contains i=true)
  (hQ:∀c a w,Q (.panic c) (a.put oi.dst v) w→Q (.panic c) a w) (hy:YIn P ops S oi v a) (hS:S w)
  (h:wpAnyInH P n md ops Q S fuel (listed.setIfInBounds i true) (a.put oi.dst v) w):wpAnyInH P n md ops Q S (fuel+1) listed a w:=
 wpAnyInH_first hi (Region.noSelect_spec hs) hQ fuel listed a w (Region.free_spec hi hf) (by simpa using hr) hy hS h
def AllReadyInH (P:Program) (n:Nat) (md:Region.Mode) (ops:Array Oper) (Q:Exit→Act→World→Prop) (S:World→Prop) (fuel:Nat) (listed:Array Bool) (a:Act) (w:World) (rs:List Nat):Prop:=
 ∀i∈rs,wpOpIn Fence.wide n P ops Q i (fun a' w'=>S w'∧wpAnyInH P n md ops Q S fuel (listed.setIfInBounds i true) a' w') a w
theorem AllReadyInH.nil {fuel:Nat} {listed:Array Bool} {a:Act} {w:World}:AllReadyInH P n md ops Q S fuel listed a w []:=fun _ h=>absurd h (by simp)
theorem AllReadyInH.cons {fuel:Nat} {listed:Array Bool} {a:Act} {w:World} {i:Nat} {o:Oper} {rs:List Nat} (ho:ops[i]? =some o)
  (h:∀K':Act→World→Prop,(∀a w,S w→wpAnyInH P n md ops Q S fuel (listed.setIfInBounds i true) a w→K' a w)→if Region.wanted o (yielded ops a.tmps)=true then Oper.wpIn Fence.wide n P o a w K' Q else(∀f,o.about P w a.eval=some f→(Fence.wide).fn f)∧K' (a.put o.dst undef) w)
  (hs:AllReadyInH P n md ops Q S fuel listed a w rs):AllReadyInH P n md ops Q S fuel listed a w (i :: rs):=fun j hj=>by
 rcases List.mem_cons.1 hj with rfl | hj
 ·exact wpOpIn_step ho (fun K' hK=>h K' (fun a w hS hW=>hK a w ⟨hS,hW⟩))
 ·exact hs j hj
theorem wpAnyInH_ready {rs:List Nat} {fuel:Nat} {listed:Array Bool} {a:Act} {w:World} (hr:Region.ready md ops listed=rs) (hne:rs≠[])
  (h:AllReadyInH P n md ops Q S fuel listed a w rs):wpAnyInH P n md ops Q S (fuel+1) listed a w:=⟨fun h0=>absurd (hr▸h0) hne,hr▸h⟩
theorem wpAnyInH_done {listed:Array Bool} {a:Act} {w:World} (hr:Region.ready md ops listed=[]) (h:Q .normal a w):∀fuel,wpAnyInH P n md ops Q S fuel listed a w
 | 0=>⟨hr,h⟩
 | _+1=>⟨fun _=>h,by rw[hr];simp⟩
theorem wpIn_region_inH {id:Nat} {a:Act} {w:World} (hm:P.follows .mixedOrders=true) (hS:S w.drew)
  (h:S w.drew→wpAnyInH P n .any ops Q S ops.size (Array.replicate ops.size false) a w.drew):(Code.region id ops true).wpIn Fence.wide n P Q a w:=
 wpIn_region_any hm (wpAnyInH_any _ _ _ _ (h hS))
end
end
section
open Go.RowKit
section
variable {P:Program} {ops:Array Oper} {Q:Exit→Act→World→Prop} {md:Region.Mode} {S:World→Prop} {X:List Nat}
def wpAnyY (P:Program) (md:Region.Mode) (ops:Array Oper) (Q:Exit→Act→World→Prop) (S:World→Prop) (X:List Nat):Nat→Array Bool→Act→World→Prop
 | 0,listed,a,w=>Region.ready md ops listed=[]∧Q .normal a w
 | fuel+1,listed,a,w=>
  (Region.ready md ops listed=[]→Q .normal a w)∧
  ∀i∈Region.ready md ops listed,wpOp P ops Q i (fun a' w'=>(X.contains i=false→S w→S w')∧wpAnyY P md ops Q S X fuel (listed.setIfInBounds i true) a' w') a w
theorem wpAnyY_any:∀ (fuel:Nat) (listed:Array Bool) (a:Act) (w:World),wpAnyY P md ops Q S X fuel listed a w→wpAny P md ops Q fuel listed a w
 | 0,_,_,_,h=>h
 | fuel+1,_,_,_,h=>⟨h.1,fun i hi=>wpOp_mono (fun a' w' h'=>wpAnyY_any fuel _ a' w' h'.2) (h.2 i hi)⟩
theorem wpAnyY_first {i:Nat} {oi:Oper} {v:Value} (hi:ops[i]? =some oi) (hsel:∀ (j:Nat) (o:Oper) cs b,ops[j]? =some o→o.op≠ .select cs b)
  (hQ:∀c a w,Q (.panic c) (a.put oi.dst v) w→Q (.panic c) a w) (hX:waitsB md ops X i=true) (fuel:Nat):∀ (listed:Array Bool) (a:Act) (w:World),
   (∀j oj,ops[j]? =some oj→j≠i→listed.getD j true=false→(∀e∈oj.after,Region.binds md e=true→e.on≠i)→oi.apart ops oj=true)→
   i∈Region.ready md ops listed→YieldsIf P ops S oi v a→S w→
   wpAnyY P md ops Q S X fuel (listed.setIfInBounds i true) (a.put oi.dst v) w→wpAnyY P md ops Q S X (fuel+1) listed a w:=by
 induction fuel with
 | zero=>
  intro listed a w _ hr hy hS H;refine⟨fun h=>absurd hr (by rw[h];simp),fun j hj=>?_⟩;rcases Nat.decEq j i with hji | hji
  ·have:=ready_mono hj hji
   rw[H.1] at this
   cases this
  ·subst hji
   exact hy.wpOp hi hS ⟨fun _ _=>hS,H⟩
 | succ fuel ih=>
  intro listed a w hfree hr hy hS H;refine⟨fun h=>absurd hr (by rw[h];simp),fun j hj=>?_⟩;rcases Nat.decEq j i with hji | hji
  ·obtain⟨hun,oj,hoj,hall⟩:=mem_ready.1 hj
   have hiun:=(mem_ready.1 hr).1
   have hnot:∀e∈oj.after,Region.binds md e=true→e.on≠i:=by
    intro e he hb heq;have hl:=hall e he hb;rw[heq] at hl;by_cases hsz:i< listed.size
    ·simp[hsz] at hiun hl;rw[hiun] at hl;cases hl
    ·simp[Array.getElem?_eq_none (Nat.le_of_not_lt hsz)] at hl
   have step:=wpOp_putIf hoj (hfree j oj hoj hji hun hnot) (fun cs b=>hsel i oi cs b hi) (fun cs b=>hsel j oj cs b hoj) hQ hy (H.2 j (ready_mono hj hji));have hnx:=waits_no (X:=X) hX hoj hnot;refine wpOp_mono (fun a' w' h3=>?_) step;have hS':=h3.2.1 hnx hS
   refine⟨fun _ _=>hS',ih (listed.setIfInBounds j true) a' w' (fun k ok hk hki hkun hno=>hfree k ok hk hki ?_ hno) (ready_mono hr (Ne.symm hji)) h3.1 hS' (by rw[Array.setIfInBounds_comm _ _ hji];exact h3.2.2)⟩;rcases Nat.decEq j k with hjk | hjk
   ·rwa[getD_set_ne true hjk] at hkun
   ·exact hjk▸hun
  ·subst hji
   exact hy.wpOp hi hS ⟨fun _ _=>hS,H⟩
theorem wpAnyY_take {i:Nat} {oi:Oper} {v:Value} {fuel:Nat} {listed:Array Bool} {a:Act} {w:World} (hi:ops[i]? =some oi)
  (hs:Region.noSelect ops=true) (hf:Region.free md ops listed i=true) (hr:(Region.ready md ops listed).contains i=true) (hX:waitsB md ops X i=true)
  (hQ:∀c a w,Q (.panic c) (a.put oi.dst v) w→Q (.panic c) a w) (hy:YieldsIf P ops S oi v a) (hS:S w)
  (h:wpAnyY P md ops Q S X fuel (listed.setIfInBounds i true) (a.put oi.dst v) w):wpAnyY P md ops Q S X (fuel+1) listed a w:=
 wpAnyY_first hi (Region.noSelect_spec hs) hQ hX fuel listed a w (Region.free_spec hi hf) (by simpa using hr) hy hS h
def AllReadyY (P:Program) (md:Region.Mode) (ops:Array Oper) (Q:Exit→Act→World→Prop) (S:World→Prop) (X:List Nat) (fuel:Nat) (listed:Array Bool) (a:Act) (w:World) (rs:List Nat):Prop:=
 ∀i∈rs,wpOp P ops Q i (fun a' w'=>(X.contains i=false→S w→S w')∧wpAnyY P md ops Q S X fuel (listed.setIfInBounds i true) a' w') a w
theorem AllReadyY.nil {fuel:Nat} {listed:Array Bool} {a:Act} {w:World}:AllReadyY P md ops Q S X fuel listed a w []:=fun _ h=>absurd h (by simp)
theorem AllReadyY.cons {fuel:Nat} {listed:Array Bool} {a:Act} {w:World} {i:Nat} {o:Oper} {rs:List Nat} (ho:ops[i]? =some o)
  (h:∀K':Act→World→Prop,Shut (∀a w',(X.contains i=false→S w→S w')→wpAnyY P md ops Q S X fuel (listed.setIfInBounds i true) a w'→K' a w')→if Region.wanted o (yielded ops a.tmps)=true then Oper.wp P o a w K' Q else K' (a.put o.dst undef) w)
  (hs:AllReadyY P md ops Q S X fuel listed a w rs):AllReadyY P md ops Q S X fuel listed a w (i :: rs):=fun j hj=>by
 rcases List.mem_cons.1 hj with rfl | hj
 ·exact wpOp_step ho (fun K' hK=>h K' (fun a w hS hW=>hK a w ⟨hS,hW⟩))
 ·exact hs j hj
theorem wpAnyY_ready {rs:List Nat} {fuel:Nat} {listed:Array Bool} {a:Act} {w:World} (hr:Region.ready md ops listed=rs) (hne:rs≠[])
  (h:AllReadyY P md ops Q S X fuel listed a w rs):wpAnyY P md ops Q S X (fuel+1) listed a w:=⟨fun h0=>absurd (hr▸h0) hne,hr▸h⟩
theorem wpAnyY_done {listed:Array Bool} {a:Act} {w:World} (hr:Region.ready md ops listed=[]) (h:Q .normal a w):∀fuel,wpAnyY P md ops Q S X fuel listed a w
 | 0=>⟨hr,h⟩
 | _+1=>⟨fun _=>h,by rw[hr];simp⟩
theorem wp_region_y (X:List Nat) {id:Nat} {a:Act} {w:World} (hm:P.follows .mixedOrders=true) (hS:S w.drew)
  (h:S w.drew→wpAnyY P .any ops Q S X ops.size (Array.replicate ops.size false) a w.drew):(Code.region id ops true).wp P Q a w:=
 wp_region_any hm (wpAnyY_any _ _ _ _ (h hS))
theorem wpAnyY_firstP {i:Nat} {oi:Oper} {v:Value} (hi:ops[i]? =some oi) (hsel:∀ (j:Nat) (o:Oper) cs b,ops[j]? =some o→o.op≠ .select cs b)
  (hQ:∀c a w,Q (.panic c) (a.put oi.dst v) w→Q (.panic c) a w) (fuel:Nat):∀ (listed:Array Bool) (a:Act) (w:World),
   (∀j oj,ops[j]? =some oj→j≠i→listed.getD j true=false→(∀e∈oj.after,Region.binds md e=true→e.on≠i)→oi.apart ops oj=true)→
   i∈Region.ready md ops listed→YieldsIf P ops (fun _=>True) oi v a→
   wpAnyY P md ops Q S X fuel (listed.setIfInBounds i true) (a.put oi.dst v) w→wpAnyY P md ops Q S X (fuel+1) listed a w:=by
 induction fuel with
 | zero=>
  intro listed a w _ hr hy H;refine⟨fun h=>absurd hr (by rw[h];simp),fun j hj=>?_⟩;rcases Nat.decEq j i with hji | hji
  ·have:=ready_mono hj hji
   rw[H.1] at this
   cases this
  ·subst hji
   exact hy.wpOp hi trivial ⟨fun _ h=>h,H⟩
 | succ fuel ih=>
  intro listed a w hfree hr hy H;refine⟨fun h=>absurd hr (by rw[h];simp),fun j hj=>?_⟩;rcases Nat.decEq j i with hji | hji
  ·obtain⟨hun,oj,hoj,hall⟩:=mem_ready.1 hj
   have hiun:=(mem_ready.1 hr).1
   have hnot:∀e∈oj.after,Region.binds md e=true→e.on≠i:=by
    intro e he hb heq;have hl:=hall e he hb;rw[heq] at hl;by_cases hsz:i< listed.size
    ·simp[hsz] at hiun hl;rw[hiun] at hl;cases hl
    ·simp[Array.getElem?_eq_none (Nat.le_of_not_lt hsz)] at hl
   have step:=wpOp_putIf hoj (hfree j oj hoj hji hun hnot) (fun cs b=>hsel i oi cs b hi) (fun cs b=>hsel j oj cs b hoj) hQ hy (H.2 j (ready_mono hj hji));refine wpOp_mono (fun a' w' h3=>?_) step
   refine⟨h3.2.1,ih (listed.setIfInBounds j true) a' w' (fun k ok hk hki hkun hno=>hfree k ok hk hki ?_ hno) (ready_mono hr (Ne.symm hji)) h3.1 (by rw[Array.setIfInBounds_comm _ _ hji];exact h3.2.2)⟩;rcases Nat.decEq j k with hjk | hjk
   ·rwa[getD_set_ne true hjk] at hkun
   ·exact hjk▸hun
  ·subst hji
   exact hy.wpOp hi trivial ⟨fun _ h=>h,H⟩
theorem wpAnyY_takeP {i:Nat} {oi:Oper} {v:Value} {fuel:Nat} {listed:Array Bool} {a:Act} {w:World} (hi:ops[i]? =some oi)
  (hs:Region.noSelect ops=true) (hf:Region.free md ops listed i=true) (hr:(Region.ready md ops listed).contains i=true)
  (hQ:∀c a w,Q (.panic c) (a.put oi.dst v) w→Q (.panic c) a w) (hy:YieldsIf P ops (fun _=>True) oi v a)
  (h:wpAnyY P md ops Q S X fuel (listed.setIfInBounds i true) (a.put oi.dst v) w):wpAnyY P md ops Q S X (fuel+1) listed a w:=
 wpAnyY_firstP hi (Region.noSelect_spec hs) hQ fuel listed a w (Region.free_spec hi hf) (by simpa using hr) hy h
end
end
section
open Go.RowKit
structure Todo (is:List Nat) (g:Prop):Prop where
 out:g
theorem Todo.fin {g:Prop} (h:g):Todo [] g:=⟨h⟩
section
variable {P:Program} {n:Nat} {ops:Array Oper} {Q:Exit→Act→World→Prop} {md:Region.Mode} {S:World→Prop} {X:List Nat}
theorem tkH {i:Nat} {is:List Nat} {oi:Oper} {v:Value} {fuel:Nat} {listed:Array Bool} {a:Act} {w:World} (hi:ops[i]? =some oi) (hy:YieldsIf P ops S oi v a) (hS:S w)
  (h:Todo is (wpAnyH P md ops Q S fuel (listed.setIfInBounds i true) (a.put oi.dst v) w)) (hs:Region.noSelect ops=true:=by kernel_rfl) (hf:Region.free md ops listed i=true:=by kernel_rfl) (hr:(Region.ready md ops listed).contains i=true:=by kernel_rfl) (hQ:∀c a w,Q (.panic c) (a.put oi.dst v) w→Q (.panic c) a w:=by exact fun _ _ _ h=>h):Todo (i :: is) (wpAnyH P md ops Q S (fuel+1) listed a w):=⟨wpAnyH_take hi hs hf hr hQ hy hS h.out⟩
theorem tkH1 {i:Nat} {oi:Oper} {v:Value} {fuel:Nat} {listed:Array Bool} {a:Act} {w:World} (hi:ops[i]? =some oi) (hy:YieldsIf P ops S oi v a) (hS:S w)
  (h:wpAnyH P md ops Q S fuel (listed.setIfInBounds i true) (a.put oi.dst v) w) (hs:Region.noSelect ops=true:=by kernel_rfl) (hf:Region.free md ops listed i=true:=by kernel_rfl) (hr:(Region.ready md ops listed).contains i=true:=by kernel_rfl) (hQ:∀c a w,Q (.panic c) (a.put oi.dst v) w→Q (.panic c) a w:=by exact fun _ _ _ h=>h):wpAnyH P md ops Q S (fuel+1) listed a w:=wpAnyH_take hi hs hf hr hQ hy hS h
theorem tkX {i:Nat} {is:List Nat} {oi:Oper} {v:Value} {fuel:Nat} {listed:Array Bool} {a:Act} {w:World} (hi:ops[i]? =some oi) (hy:YieldsIf P ops S oi v a) (hS:S w)
  (h:Todo is (wpAnyX P md ops Q S X fuel (listed.setIfInBounds i true) (a.put oi.dst v) w)) (hs:Region.noSelect ops=true:=by kernel_rfl) (hf:Region.free md ops listed i=true:=by kernel_rfl) (hr:(Region.ready md ops listed).contains i=true:=by kernel_rfl) (hX:waitsB md ops X i=true:=by kernel_rfl) (hQ:∀c a w,Q (.panic c) (a.put oi.dst v) w→Q (.panic c) a w:=by exact fun _ _ _ h=>h):Todo (i :: is) (wpAnyX P md ops Q S X (fuel+1) listed a w):=⟨wpAnyX_take hi hs hf hr hX hQ hy hS h.out⟩
theorem tkX1 {i:Nat} {oi:Oper} {v:Value} {fuel:Nat} {listed:Array Bool} {a:Act} {w:World} (hi:ops[i]? =some oi) (hy:YieldsIf P ops S oi v a) (hS:S w)
  (h:wpAnyX P md ops Q S X fuel (listed.setIfInBounds i true) (a.put oi.dst v) w) (hs:Region.noSelect ops=true:=by kernel_rfl) (hf:Region.free md ops listed i=true:=by kernel_rfl) (hr:(Region.ready md ops listed).contains i=true:=by kernel_rfl) (hX:waitsB md ops X i=true:=by kernel_rfl) (hQ:∀c a w,Q (.panic c) (a.put oi.dst v) w→Q (.panic c) a w:=by exact fun _ _ _ h=>h):wpAnyX P md ops Q S X (fuel+1) listed a w:=wpAnyX_take hi hs hf hr hX hQ hy hS h
theorem tkM (M:List Nat) {i:Nat} {is:List Nat} {oi:Oper} {v:Value} {fuel:Nat} {listed:Array Bool} {a:Act} {w:World} (hi:ops[i]? =some oi) (hy:YieldsIf P ops S oi v a) (hS:S w)
  (h:Todo is (wpAnyX P md ops Q S X fuel (listed.setIfInBounds i true) (a.put oi.dst v) w)) (hs:Region.noSelect ops=true:=by kernel_rfl) (hf:Region.free md ops listed i=true:=by kernel_rfl) (hr:(Region.ready md ops listed).contains i=true:=by kernel_rfl) (hX:waitsM md ops X M i=true:=by kernel_rfl) (hM:waitsB md ops M i=true:=by kernel_rfl) (hml:(M.all fun k=>listed.getD k true==false)=true:=by kernel_rfl) (hQ:∀c a w,Q (.panic c) (a.put oi.dst v) w→Q (.panic c) a w:=by exact fun _ _ _ h=>h):Todo (i :: is) (wpAnyX P md ops Q S X (fuel+1) listed a w):=⟨wpAnyX_takeM M hi hs hf hr hX hM hml hQ hy hS h.out⟩
theorem tkM1 (M:List Nat) {i:Nat} {oi:Oper} {v:Value} {fuel:Nat} {listed:Array Bool} {a:Act} {w:World} (hi:ops[i]? =some oi) (hy:YieldsIf P ops S oi v a) (hS:S w)
  (h:wpAnyX P md ops Q S X fuel (listed.setIfInBounds i true) (a.put oi.dst v) w) (hs:Region.noSelect ops=true:=by kernel_rfl) (hf:Region.free md ops listed i=true:=by kernel_rfl) (hr:(Region.ready md ops listed).contains i=true:=by kernel_rfl) (hX:waitsM md ops X M i=true:=by kernel_rfl) (hM:waitsB md ops M i=true:=by kernel_rfl) (hml:(M.all fun k=>listed.getD k true==false)=true:=by kernel_rfl) (hQ:∀c a w,Q (.panic c) (a.put oi.dst v) w→Q (.panic c) a w:=by exact fun _ _ _ h=>h):wpAnyX P md ops Q S X (fuel+1) listed a w:=wpAnyX_takeM M hi hs hf hr hX hM hml hQ hy hS h
theorem tkP {i:Nat} {is:List Nat} {oi:Oper} {v:Value} {fuel:Nat} {listed:Array Bool} {a:Act} {w:World} (hi:ops[i]? =some oi) (hy:YieldsIf P ops (fun _=>True) oi v a)
  (h:Todo is (wpAnyX P md ops Q S X fuel (listed.setIfInBounds i true) (a.put oi.dst v) w)) (hs:Region.noSelect ops=true:=by kernel_rfl) (hf:Region.free md ops listed i=true:=by kernel_rfl) (hr:(Region.ready md ops listed).contains i=true:=by kernel_rfl) (hXi:X.contains i=true:=by kernel_rfl) (hQ:∀c a w,Q (.panic c) (a.put oi.dst v) w→Q (.panic c) a w:=by exact fun _ _ _ h=>h):Todo (i :: is) (wpAnyX P md ops Q S X (fuel+1) listed a w):=⟨wpAnyX_takeP hi hs hf hr hXi hQ hy h.out⟩
theorem tkP1 {i:Nat} {oi:Oper} {v:Value} {fuel:Nat} {listed:Array Bool} {a:Act} {w:World} (hi:ops[i]? =some oi) (hy:YieldsIf P ops (fun _=>True) oi v a)
  (h:wpAnyX P md ops Q S X fuel (listed.setIfInBounds i true) (a.put oi.dst v) w) (hs:Region.noSelect ops=true:=by kernel_rfl) (hf:Region.free md ops listed i=true:=by kernel_rfl) (hr:(Region.ready md ops listed).contains i=true:=by kernel_rfl) (hXi:X.contains i=true:=by kernel_rfl) (hQ:∀c a w,Q (.panic c) (a.put oi.dst v) w→Q (.panic c) a w:=by exact fun _ _ _ h=>h):wpAnyX P md ops Q S X (fuel+1) listed a w:=wpAnyX_takeP hi hs hf hr hXi hQ hy h
theorem tkF {i:Nat} {is:List Nat} {oi:Oper} {v:Value} {fuel:Nat} {listed:Array Bool} {a:Act} {w:World} (hi:ops[i]? =some oi) (hy:YIn P ops S oi v a) (hS:S w)
  (h:Todo is (wpAnyInH P n md ops Q S fuel (listed.setIfInBounds i true) (a.put oi.dst v) w)) (hs:Region.noSelect ops=true:=by kernel_rfl) (hf:Region.free md ops listed i=true:=by kernel_rfl) (hr:(Region.ready md ops listed).contains i=true:=by kernel_rfl) (hQ:∀c a w,Q (.panic c) (a.put oi.dst v) w→Q (.panic c) a w:=by exact fun _ _ _ h=>h):Todo (i :: is) (wpAnyInH P n md ops Q S (fuel+1) listed a w):=⟨wpAnyInH_take hi hs hf hr hQ hy hS h.out⟩
theorem tkF1 {i:Nat} {oi:Oper} {v:Value} {fuel:Nat} {listed:Array Bool} {a:Act} {w:World} (hi:ops[i]? =some oi) (hy:YIn P ops S oi v a) (hS:S w)
  (h:wpAnyInH P n md ops Q S fuel (listed.setIfInBounds i true) (a.put oi.dst v) w) (hs:Region.noSelect ops=true:=by kernel_rfl) (hf:Region.free md ops listed i=true:=by kernel_rfl) (hr:(Region.ready md ops listed).contains i=true:=by kernel_rfl) (hQ:∀c a w,Q (.panic c) (a.put oi.dst v) w→Q (.panic c) a w:=by exact fun _ _ _ h=>h):wpAnyInH P n md ops Q S (fuel+1) listed a w:=wpAnyInH_take hi hs hf hr hQ hy hS h
theorem tkY {i:Nat} {is:List Nat} {oi:Oper} {v:Value} {fuel:Nat} {listed:Array Bool} {a:Act} {w:World} (hi:ops[i]? =some oi) (hy:YieldsIf P ops S oi v a) (hS:S w)
  (h:Todo is (wpAnyY P md ops Q S X fuel (listed.setIfInBounds i true) (a.put oi.dst v) w)) (hs:Region.noSelect ops=true:=by kernel_rfl) (hf:Region.free md ops listed i=true:=by kernel_rfl) (hr:(Region.ready md ops listed).contains i=true:=by kernel_rfl) (hX:waitsB md ops X i=true:=by kernel_rfl) (hQ:∀c a w,Q (.panic c) (a.put oi.dst v) w→Q (.panic c) a w:=by exact fun _ _ _ h=>h):Todo (i :: is) (wpAnyY P md ops Q S X (fuel+1) listed a w):=⟨wpAnyY_take hi hs hf hr hX hQ hy hS h.out⟩
theorem tkY1 {i:Nat} {oi:Oper} {v:Value} {fuel:Nat} {listed:Array Bool} {a:Act} {w:World} (hi:ops[i]? =some oi) (hy:YieldsIf P ops S oi v a) (hS:S w)
  (h:wpAnyY P md ops Q S X fuel (listed.setIfInBounds i true) (a.put oi.dst v) w) (hs:Region.noSelect ops=true:=by kernel_rfl) (hf:Region.free md ops listed i=true:=by kernel_rfl) (hr:(Region.ready md ops listed).contains i=true:=by kernel_rfl) (hX:waitsB md ops X i=true:=by kernel_rfl) (hQ:∀c a w,Q (.panic c) (a.put oi.dst v) w→Q (.panic c) a w:=by exact fun _ _ _ h=>h):wpAnyY P md ops Q S X (fuel+1) listed a w:=wpAnyY_take hi hs hf hr hX hQ hy hS h
theorem tkQ {i:Nat} {is:List Nat} {oi:Oper} {v:Value} {fuel:Nat} {listed:Array Bool} {a:Act} {w:World} (hi:ops[i]? =some oi) (hy:YieldsIf P ops (fun _=>True) oi v a)
  (h:Todo is (wpAnyY P md ops Q S X fuel (listed.setIfInBounds i true) (a.put oi.dst v) w)) (hs:Region.noSelect ops=true:=by kernel_rfl) (hf:Region.free md ops listed i=true:=by kernel_rfl) (hr:(Region.ready md ops listed).contains i=true:=by kernel_rfl) (hQ:∀c a w,Q (.panic c) (a.put oi.dst v) w→Q (.panic c) a w:=by exact fun _ _ _ h=>h):Todo (i :: is) (wpAnyY P md ops Q S X (fuel+1) listed a w):=⟨wpAnyY_takeP hi hs hf hr hQ hy h.out⟩
theorem tkQ1 {i:Nat} {oi:Oper} {v:Value} {fuel:Nat} {listed:Array Bool} {a:Act} {w:World} (hi:ops[i]? =some oi) (hy:YieldsIf P ops (fun _=>True) oi v a)
  (h:wpAnyY P md ops Q S X fuel (listed.setIfInBounds i true) (a.put oi.dst v) w) (hs:Region.noSelect ops=true:=by kernel_rfl) (hf:Region.free md ops listed i=true:=by kernel_rfl) (hr:(Region.ready md ops listed).contains i=true:=by kernel_rfl) (hQ:∀c a w,Q (.panic c) (a.put oi.dst v) w→Q (.panic c) a w:=by exact fun _ _ _ h=>h):wpAnyY P md ops Q S X (fuel+1) listed a w:=wpAnyY_takeP hi hs hf hr hQ hy h
theorem rdH {i:Nat} {o:Oper} {fuel:Nat} {listed:Array Bool} {a:Act} {w:World} (hr:Region.ready md ops listed=[i]) (ho:ops[i]? =some o)
  (h:∀K':Act→World→Prop,Shut (∀a w,S w→(S w→wpAnyH P md ops Q S fuel (listed.setIfInBounds i true) a w)→K' a w)→if Region.wanted o (yielded ops a.tmps)=true then Oper.wp P o a w K' Q else K' (a.put o.dst undef) w):wpAnyH P md ops Q S (fuel+1) listed a w:=wpAnyH_ready hr (by simp) (AllReadyH.cons ho h AllReadyH.nil)
theorem rdX {i:Nat} {o:Oper} {fuel:Nat} {listed:Array Bool} {a:Act} {w:World} (hr:Region.ready md ops listed=[i]) (ho:ops[i]? =some o)
  (h:∀K':Act→World→Prop,Shut (∀a w,(X.contains i=false→S w)→wpAnyX P md ops Q S X fuel (listed.setIfInBounds i true) a w→K' a w)→if Region.wanted o (yielded ops a.tmps)=true then Oper.wp P o a w K' Q else K' (a.put o.dst undef) w):wpAnyX P md ops Q S X (fuel+1) listed a w:=wpAnyX_ready hr (by simp) (AllReadyX.cons ho h AllReadyX.nil)
theorem rdY {i:Nat} {o:Oper} {fuel:Nat} {listed:Array Bool} {a:Act} {w:World} (hr:Region.ready md ops listed=[i]) (ho:ops[i]? =some o)
  (h:∀K':Act→World→Prop,Shut (∀a w',(X.contains i=false→S w→S w')→wpAnyY P md ops Q S X fuel (listed.setIfInBounds i true) a w'→K' a w')→if Region.wanted o (yielded ops a.tmps)=true then Oper.wp P o a w K' Q else K' (a.put o.dst undef) w):wpAnyY P md ops Q S X (fuel+1) listed a w:=wpAnyY_ready hr (by simp) (AllReadyY.cons ho h AllReadyY.nil)
theorem rdF {i:Nat} {o:Oper} {fuel:Nat} {listed:Array Bool} {a:Act} {w:World} (hr:Region.ready md ops listed=[i]) (ho:ops[i]? =some o)
  (h:∀K':Act→World→Prop,(∀a w,S w→wpAnyInH P n md ops Q S fuel (listed.setIfInBounds i true) a w→K' a w)→if Region.wanted o (yielded ops a.tmps)=true then Oper.wpIn Fence.wide n P o a w K' Q else(∀f,o.about P w a.eval=some f→(Fence.wide).fn f)∧K' (a.put o.dst undef) w):wpAnyInH P n md ops Q S (fuel+1) listed a w:=wpAnyInH_ready hr (by simp) (AllReadyInH.cons ho h AllReadyInH.nil)
end
theorem lA {α:Type} {xs:List α} {i:Nat} {x:α}:xs.toArray.setIfInBounds i x=(xs.set i x).toArray:=List.setIfInBounds_toArray ..
theorem lB {α:Type} {x b:α} {l:List α}:(x :: l).set 0 b=b :: l:=List.set_cons_zero ..
theorem lC {α:Type} {x b:α} {l:List α} {i:Nat}:(x :: l).set (i+1) b=x :: l.set i b:=List.set_cons_succ ..
theorem lD {α:Type} {xs:List α} {i:Nat} (h:i< xs.toArray.size):xs.toArray[i]=xs[i]'(by simpa using h):=List.getElem_toArray h
theorem lE {α:Type} {x:α} {l:List α} (h:0< (x :: l).length):(x :: l)[0]=x:=List.getElem_cons_zero ..
theorem lF {α:Type} {x:α} {l:List α} {i:Nat} (h:i+1< (x :: l).length):(x :: l)[i+1]=l[i]'(by simpa using h):=List.getElem_cons_succ ..
theorem yA {a b:Prop} (x:a) (y:b):a∧b:=⟨x,y⟩
theorem yA3 {a b c:Prop} (x:a) (y:b) (z:c):a∧b∧c:=⟨x,y,z⟩
theorem yA4 {a b c d:Prop} (x:a) (y:b) (z:c) (u:d):a∧b∧c∧d:=⟨x,y,z,u⟩
theorem yA5 {a b c d e:Prop} (x:a) (y:b) (z:c) (u:d) (v:e):a∧b∧c∧d∧e:=⟨x,y,z,u,v⟩
theorem yH {a:Prop} (x:a):RowKit.Hid a:=Lib.hid x
theorem yP4 {a b c d e:Prop} (x:a∧b∧c∧d∧e):e:=x.2.2.2.2
theorem yP6 {a b c d e f g:Prop} (x:a∧b∧c∧d∧e∧f∧g):g:=x.2.2.2.2.2.2
theorem yP8 {a b c d e f g h i:Prop} (x:a∧b∧c∧d∧e∧f∧g∧h∧i):i:=x.2.2.2.2.2.2.2.2
theorem yP10 {a b c d e f g h i j k:Prop} (x:a∧b∧c∧d∧e∧f∧g∧h∧i∧j∧k):k:=x.2.2.2.2.2.2.2.2.2.2
theorem yP12 {a b c d e f g h i j k l m:Prop} (x:a∧b∧c∧d∧e∧f∧g∧h∧i∧j∧k∧l∧m):m:=x.2.2.2.2.2.2.2.2.2.2.2.2
theorem lY:(∀ {α:Type} {xs:List α} {i:Nat} {x:α},xs.toArray.setIfInBounds i x=(xs.set i x).toArray)∧(∀ {α:Type} {x b:α} {l:List α},(x :: l).set 0 b=b :: l)∧(∀ {α:Type} {x b:α} {l:List α} {i:Nat},(x :: l).set (i+1) b=x :: l.set i b):=⟨lA,lB,lC⟩
theorem lZ:(∀ {α:Type} {xs:List α} {i:Nat} {x:α},xs.toArray.setIfInBounds i x=(xs.set i x).toArray)∧(∀ {α:Type} {x b:α} {l:List α},(x :: l).set 0 b=b :: l)∧(∀ {α:Type} {x b:α} {l:List α} {i:Nat},(x :: l).set (i+1) b=x :: l.set i b)∧(∀ {α:Type} {xs:List α} {i:Nat} (h:i< xs.toArray.size),xs.toArray[i]=xs[i]'(by simpa using h))∧(∀ {α:Type} {x:α} {l:List α} (h:0< (x :: l).length),(x :: l)[0]=x)∧(∀ {α:Type} {x:α} {l:List α} {i:Nat} (h:i+1< (x :: l).length),(x :: l)[i+1]=l[i]'(by simpa using h)):=⟨lA,lB,lC,lD,lE,lF⟩
end
section
open Go.RowKit
structure Ap (w w':World) (v v':Value):Prop where
 chg:Chg (fun j=>v.ownBlock=some j) w w'
 at_:∀j,v'.ownBlock=some j→v.ownBlock=some j∨w.heap.size≤j
theorem Ap.refl (w:World) (v:Value):Ap w w v v:=⟨Chg.refl _ _,fun _ h=> .inl h⟩
theorem Ap.trans {w w1 w2:World} {v v1 v2:Value} (h:Ap w w1 v v1) (k:Ap w1 w2 v1 v2):Ap w w2 v v2:=
 ⟨Chg.trans h.chg k.chg fun i hi e=>(h.at_ i e).resolve_right (by omega),fun j hj=>(k.at_ j hj).elim (h.at_ j) fun e=> .inr (Nat.le_trans h.chg.size e)⟩
theorem Ap.push {w wr W w1:World} {v v1 v2:Value} (h:Ap w wr v v1) (hg:Grew wr W) (hb:W.grownBy w1 v1.ownBlock) (ha:v2.ownBlock=v1.ownBlock∨v2.ownBlock=some W.heap.size):Ap w w1 v v2:=by
 have hs:=h.chg.size;have hs1:=hg.size;refine⟨(h.chg.grew hg).grown hb fun k hk hlt=>(h.at_ k hk).resolve_right (by omega),fun j hj=>?_⟩;rcases ha with e | e
 ·exact h.at_ j (e▸hj)
 ·rw[e] at hj;cases hj;exact .inr (by omega)
theorem Ap.grow {w0 w w':World} {v v':Value} (h:Ap w w' v v') (hg:Grew w0 w) (hv:∀j,v.ownBlock=some j→w0.heap.size≤j):Grew w0 w':=Chg.trans hg h.chg fun i hi e=>by have:=hv i e;omega
theorem Ap.new {w0 w w':World} {v v':Value} (h:Ap w w' v v') (hg:Grew w0 w) (hv:∀j,v.ownBlock=some j→w0.heap.size≤j):∀j,v'.ownBlock=some j→w0.heap.size≤j:=fun j hj=>(h.at_ j hj).elim (hv j) fun e=>Nat.le_trans hg.size e
end
section
open Go.RowKit
theorem own_row {w:World} {base:Nat} {e:TypeId} {s n cap g:Nat} {xs:List Value} (h:w.ownsRow base e s (.slice (some ⟨g,0,none⟩) n cap) n xs) :
  ∃cur,base≤g∧w.heap[g]? =some (.cells cur e (0,0))∧n≤cap∧cap≤maxLen∧cur.size=cap*s∧cur.toList.take (n*s)=xs∧xs.length=n*s:=by
 rcases h.2 with ⟨h',_⟩ | ⟨g',cap',cur,h',hb,hg,hnc,hcm,hcs,htake⟩
 ·cases h'
 ·simp only[Value.slice.injEq,Option.some.injEq,Addr.mk.injEq,and_true,true_and] at h'
  obtain⟨rfl,rfl⟩:=h';exact⟨cur,hb,hg,hnc,hcm,hcs,htake,h.1⟩
section
variable {P:Program} {w:World}
theorem step_append_run {ops:Array Oper} {o:Oper} {a:Act} {K:Act→World→Prop} {Q:Exit→Act→World→Prop} {E:Prop} (hgd:o.guard=none) (s x:Operand) (t:TypeId)
  (ho:o.op= .call { callee:= .builtin .append,args:= #[s,x],argTypes:= #[t,t] }) {sv xv v:Value} {w':World} (hs:a.eval s=sv) (hx:a.eval x=xv)
  (hrun:(Builtin.append_ #[t,t] o.type #[sv,xv]).run P w= .ok v w') (h:K (a.put o.dst v) w'):if Region.wanted o (yielded ops a.tmps)=true then Oper.wp P o a w K Q else E:=by
 have hw:Region.wanted o (yielded ops a.tmps)=true:=by simp[Region.wanted,hgd]
 rw[if_pos hw];unfold Oper.wp execOp;simp only[ho,resolve,invoke,builtin,Sem.run_bind,Sem.run_pure,Result.andThen_ok,List.map_toArray,List.map_cons,List.map_nil,hs,hx,hrun];exact h
theorem wpList_append_run {ops:Array Oper} {rest:List Oper} {o:Oper} {a:Act} {Q:Exit→Act→World→Prop} (hgd:o.guard=none) (s x:Operand) (t:TypeId)
  (ho:o.op= .call { callee:= .builtin .append,args:= #[s,x],argTypes:= #[t,t] }) {sv xv v:Value} {w':World} (hs:a.eval s=sv) (hx:a.eval x=xv)
  (hrun:(Builtin.append_ #[t,t] o.type #[sv,xv]).run P w= .ok v w') (h:wpList P ops Q rest (a.put o.dst v) w'):wpList P ops Q (o :: rest) a w:=
 wpList_plain hgd fun _ hK=>by
  unfold Oper.wp execOp;simp only[ho,resolve,invoke,builtin,Sem.run_bind,Sem.run_pure,Result.andThen_ok,List.map_toArray,List.map_cons,List.map_nil,hs,hx,hrun];exact hK _ _ h
theorem own_short {base:Nat} {e:TypeId} {s n m cap g:Nat} {xs:List Value} (h:w.ownsRow base e s (.slice (some ⟨g,0,none⟩) n cap) n xs) (hm:m≤n) :
  w.ownsRow base e s (.slice (some ⟨g,0,none⟩) m cap) m (xs.take (m*s)):=by
 obtain⟨cur,hb,hg,hnc,hcm,hcs,htake,hxl⟩:=own_row h;have hns:m*s≤n*s:=Nat.mul_le_mul_right _ hm;refine⟨by rw[List.length_take];omega,.inr ⟨g,cap,cur,rfl,hb,hg,by omega,hcm,hcs,?_⟩⟩;rw[←htake,List.take_take];congr 1
 omega
end
theorem grew_row {w0 W W1:World} {e:TypeId} {s n:Nat} {v:Value} {xs:List Value} (hw:Grew w0 W) (ho:W.ownsRow w0.heap.size e s v n xs) (hg:W.grownBy W1 v.ownBlock):Grew w0 W1:=
 hw.grown hg fun k hk hlt=>by have:=(ho.lt k hk).1;omega
end
section
open Go.RowKit Go.Maps
open Go.WideElems (rg)
open Go.ChangeMaps (setBlock)
def rdV (v:Value):Option (DataW Value×List MemPlace):=some (.held v,[])
structure Vw (D:DataW Value) (m:Int→Option Value):Prop where
 no:∀i,m i=none→Maps.has D (.int .i64 i)=false
 yes:∀i v,m i=some v→Maps.has D (.int .i64 i)=true∧∀z,D.atKey (.int .i64 i) z= .held v
def IMap (P:Program) (k:TypeId) (w:World) (b:Nat) (m:Int→Option Value) (s:Nat):Prop:=
 ∃D,w.ownsMap P k rdV b s D∧Maps.size D=s∧Vw D m
def upd (m:Int→Option Value) (i:Int) (o:Option Value):Int→Option Value:=fun j=>if j=i then o else m j
theorem upd_same (m:Int→Option Value) (i:Int) (o:Option Value):upd m i o i=o:=by simp[upd]
theorem upd_other {m:Int→Option Value} {i j:Int} {o:Option Value} (h:j≠i):upd m i o j=m j:=by simp[upd,h]
theorem keyLit (i:Int):WideAt.IsKeyLit (.int .i64 i):=by simp[WideAt.IsKeyLit]
theorem wfInt {i:Int} (h0: -9223372036854775808≤i) (h1:i≤9223372036854775807):(Lit.int .i64 i).wf=true:=by
 have e0:IntKind.i64.min= -9223372036854775808:=by decide
 have e1:IntKind.i64.max=9223372036854775807:=by decide
 simp[Lit.wf,e0,e1]
 omega
theorem wrap_nat {n:Nat} (h:n≤9223372036854775807):IntKind.i64.wrap (n:Int)=(n:Int):=by
 have e:IntKind.i64.min= -9223372036854775808:=by decide
 have e1:IntKind.i64.max=9223372036854775807:=by decide
 simp[IntKind.wrap,IntKind.bits,IntKind.signed]
 omega
theorem own_tight {P:Program} {k:TypeId} {R:Value→Option (DataW Value×List MemPlace)} {w:World} {b n n':Nat} {D:DataW Value} (h:w.ownsMap P k R b n D) (hn:Maps.size D≤n'):w.ownsMap P k R b n' D:=by
 obtain⟨es,clock,hb,F,hs,rfl⟩:=h;refine⟨es,clock,hb,F,?_,rfl⟩;have:Maps.size (DataW.map ((es.toList.map (rg P k R)).foldr DataW.insert []))=es.size:=by simp[Maps.size,length_sorted]
 omega
section
variable {P:Program} {k t e:TypeId} {w w':World} {b s:Nat} {m:Int→Option Value}
theorem IMap.made (P:Program) (k:TypeId) (w:World):IMap P k (w.alloc (.map #[] 0)) w.heap.size (fun _=>none) 0:=
 ⟨_,World.ownsMap_made w P k rdV,rfl,⟨fun _ _=>rfl,fun _ _ h=>by cases h⟩⟩
theorem IMap.lt (h:IMap P k w b m s):b< w.heap.size:=by obtain⟨D,ho,_⟩:=h;exact ho.lt
theorem IMap.chg {F:Nat→Prop} (h:IMap P k w b m s) (hc:Chg F w w') (hF:¬F b):IMap P k w' b m s:=by
 obtain⟨D,⟨es,clock,hb,r⟩,hs,hv⟩:=h;exact⟨D,⟨es,clock,(hc.block b (Array.getElem?_eq_some_iff.1 hb).1 hF).trans hb,r⟩,hs,hv⟩
theorem IMap.grew (h:IMap P k w b m s) (hc:Grew w w'):IMap P k w' b m s:=h.chg hc id
theorem IMap.look (h:IMap P k w b m s) (K:Keyed P k) (hk:P.underlying k=some (.int .i64)) (ht:P.underlying t=some (.map k e)) {z:Value} (hz:(zeroValue e).run P w= .ok z w) {i:Int} (hi:(Lit.int .i64 i).wf=true) :
  (Instr.lookup t (.map (some b)) (.int .i64 i) false).run P w= .ok ((m i).getD z) w:=by
 obtain⟨D,ho, -,hv⟩:=h;obtain⟨v,ps,hr,hR⟩:=ho.lookup K ht hz (zd:= .held z) (zp:=[]) rfl (keyOf_int_mk hk hi);rw[hr];simp only[rdV,Option.some.injEq,Prod.mk.injEq] at hR
 cases hm:m i with
 | none=>
  rw[atKey_of_not_has (hv.no i hm)] at hR;injection hR.1 with e
  rw[e];rfl
 | some x=>
  rw[(hv.yes i x hm).2] at hR;injection hR.1 with e;rw[e];rfl
theorem IMap.look_ok (h:IMap P k w b m s) (K:Keyed P k) (hk:P.underlying k=some (.int .i64)) (ht:P.underlying t=some (.map k e)) {z:Value} (hz:(zeroValue e).run P w= .ok z w) {i:Int} (hi:(Lit.int .i64 i).wf=true) :
  (Instr.lookup t (.map (some b)) (.int .i64 i) true).run P w= .ok (.tuple #[(m i).getD z,.bool (m i).isSome]) w:=by
 obtain⟨D,ho, -,hv⟩:=h;obtain⟨v,ps,hr,hR⟩:=ho.look_ok K ht hz (zd:= .held z) (zp:=[]) rfl (keyOf_int_mk hk hi);rw[hr];simp only[rdV,Option.some.injEq,Prod.mk.injEq] at hR
 cases hm:m i with
 | none=>
  rw[atKey_of_not_has (hv.no i hm)] at hR;injection hR.1 with e
  rw[e,hv.no i hm];rfl
 | some x=>
  rw[(hv.yes i x hm).2] at hR;injection hR.1 with e;rw[e,(hv.yes i x hm).1];rfl
theorem IMap.len (h:IMap P k w b m s) (ht:P.underlying t=some (.map k e)) (ty:TypeId):(Builtin.len_ #[t] ty #[.map (some b)]).run P w= .ok (.int .i64 s) w:=by
 obtain⟨D,ho,hs, -⟩:=h;rw[ho.len ht,hs]
theorem turned_chg (h:w.mapTurned w' b):Chg (fun j=>j=b) w w':=
 (Chg.refl (fun j=>j=b) w).grown h.grown fun j hj _=>by injection hj with hj;exact hj.symm
theorem IMap.putD {n:Nat} {D:DataW Value} {i:Int} {v:Value} (hv:Vw D m) (hs:Maps.size D=s) (ht:Tidy D) (hM:IsMap D) (ho:w'.ownsMap P k rdV b n (D.put (.int .i64 i) (.held v))) :
  IMap P k w' b (upd m i (some v)) (if (m i).isSome then s else s+1):=by
 have hsz:Maps.size (D.put (.int .i64 i) (.held v))=if (m i).isSome then s else s+1:=by
  rw[Maps.size_put ht,hs]
  cases hm:m i with
  | none=>rw[hv.no i hm];rfl
  | some x=>rw[(hv.yes i x hm).1];rfl
 refine⟨_,own_tight ho (by omega),hsz,⟨fun j hj=>?_,fun j x hj=>?_⟩⟩
 ·by_cases e:j=i
  ·subst e;rw[upd_same] at hj;cases hj
  ·rw[upd_other e] at hj
   rw[Maps.has_put_other (by simpa using e)]
   exact hv.no j hj
 ·by_cases e:j=i
  ·subst e
   rw[upd_same] at hj
   cases hj
   exact⟨Maps.has_put_same hM (keyLit j) _,fun z=>Maps.atKey_put_same hM (keyLit j) _ z⟩
  ·rw[upd_other e] at hj
   rw[Maps.has_put_other (by simpa using e)]
   exact⟨(hv.yes j x hj).1,fun z=>by rw[Maps.atKey_put_other (by simpa using e)];exact(hv.yes j x hj).2 z⟩
theorem IMap.put (h:IMap P k w b m s) (K:Keyed P k) (hk:P.underlying k=some (.int .i64)) (ht:P.underlying t=some (.map k e)) (hn:s< maxLen) {i:Int} (hi:(Lit.int .i64 i).wf=true) (v:Value) :
  ∃w',(Instr.mapUpdate t (.map (some b)) (.int .i64 i) v).run P w= .ok () w'∧IMap P k w' b (upd m i (some v)) (if (m i).isSome then s else s+1)∧Chg (fun j=>j=b) w w':=by
 obtain⟨D,ho,hs,hv⟩:=h;obtain⟨w',hr,ho',ht'⟩:=ho.store K ht hn (keyOf_int_mk hk hi) (d:= .held v) (ps:=[]) rfl;exact⟨w',hr,IMap.putD hv hs (ho.tidy K) ho.isMap ho',turned_chg ht'⟩
theorem IMap.delD {n:Nat} {D:DataW Value} {i:Int} (hv:Vw D m) (hs:Maps.size D=s) (ht:Tidy D) (ho:w'.ownsMap P k rdV b n (D.del (.int .i64 i))) :
  IMap P k w' b (upd m i none) (if (m i).isSome then s - 1 else s):=by
 have hsz:Maps.size (D.del (.int .i64 i))=if (m i).isSome then s - 1 else s:=by
  have:=Maps.size_del ht (k:= .int .i64 i);rw[hs] at this
  cases hm:m i with
  | none=>rw[hv.no i hm] at this;simpa using this
  | some x=>rw[(hv.yes i x hm).1] at this;simp at this ⊢;omega
 refine⟨_,own_tight ho (by omega),hsz,⟨fun j hj=>?_,fun j x hj=>?_⟩⟩
 ·by_cases e:j=i
  ·subst e;exact Maps.has_del_same
  ·rw[upd_other e] at hj
   rw[Maps.has_del_other (by simpa using e)]
   exact hv.no j hj
 ·by_cases e:j=i
  ·subst e;rw[upd_same] at hj;cases hj
  ·rw[upd_other e] at hj
   rw[Maps.has_del_other (by simpa using e)]
   exact⟨(hv.yes j x hj).1,fun z=>by rw[Maps.atKey_del_other (by simpa using e)];exact(hv.yes j x hj).2 z⟩
theorem IMap.del (h:IMap P k w b m s) (K:Keyed P k) (hk:P.underlying k=some (.int .i64)) (ht:P.underlying t=some (.map k e)) {i:Int} (hi:(Lit.int .i64 i).wf=true) (ty:TypeId) :
  ∃w',(Builtin.delete_ #[t,k] ty #[.map (some b),.int .i64 i]).run P w= .ok (.tuple #[]) w'∧IMap P k w' b (upd m i none) (if (m i).isSome then s - 1 else s)∧Chg (fun j=>j=b) w w':=by
 obtain⟨D,ho,hs,hv⟩:=h;obtain⟨w',hr,ho',ht'⟩:=ho.drop K ht (keyOf_int_mk hk hi) ty;exact⟨w',hr,IMap.delD hv hs (ho.tidy K) ho',turned_chg ht'⟩
end
section
variable {P:Program} {k e:TypeId} {b s:Nat} {m:Int→Option Value} (w:World) {ops:Array Oper} {rest:List Oper} {o:Oper} {a:Act} {Q:Exit→Act→World→Prop}
end
theorem IMap.entry {P:Program} {k t e:TypeId} {w:World} {b s:Nat} {m:Int→Option Value} (h:IMap P k w b m s) (K:Keyed P k) (hk:P.underlying k=some (.int .i64)) (ht:P.underlying t=some (.map k e)) (hn:s< maxLen) {z:Value} (hz:∀u:World,(zeroValue e).run P u= .ok z u) {i:Int} (hi:(Lit.int .i64 i).wf=true) :
  ∃ (v0:Value) (st:Nat) (o1:Obj),(Instr.mapEntry t (.map (some b)) (.int .i64 i)).run P w= .ok (.tuple #[v0,goInt st]) (setBlock w b o1)∧
   ∀ (w2:World) (val:Value),w2.heap[b]? =some o1→∃o2,(Instr.entryStore t (.map (some b)) (goInt st) val).run P w2= .ok () (setBlock w2 b o2)∧IMap P k (setBlock w2 b o2) b (upd m i (some val)) (if (m i).isSome then s else s+1):=by
 obtain⟨D,ho,hs,hv⟩:=h;have hT:=ho.tidy K;have hMp:=ho.isMap;obtain⟨es,clock,hb,F,hle,hD⟩:=ho;have hkey:=keyOf_int_mk hk hi;obtain⟨s1,s2,_⟩:=F.stamped
 have fin:∀ (es':Array MapEntry) (clock':Nat) (val:Value),(Instr.mapUpdate t (.map (some b)) (.int .i64 i) val).run P w= .ok () (setBlock w b (.map es' clock'))→∀w2:World,b< w2.heap.size→
   IMap P k (setBlock w2 b (.map es' clock')) b (upd m i (some val)) (if (m i).isSome then s else s+1):=by
  intro es' clock' val hr w2 hb2;have ho:w.ownsMap P k rdV b s D:=⟨es,clock,hb,F,hle,hD⟩;obtain⟨w',hr',ho', -⟩:=ho.store K ht hn hkey (d:= .held val) (ps:=[]) rfl;rw[hr] at hr';injection hr' with _ e;subst e;obtain⟨es1,clock1,hb1,r⟩:=ho';have hbw:b< w.heap.size:=(Array.getElem?_eq_some_iff.1 hb).1
  have e1:(setBlock w b (.map es' clock')).heap[b]? =some (.map es' clock'):=by simp[setBlock,hbw]
  rw[e1] at hb1;injection hb1 with hb1;injection hb1 with h1 h2;subst h1 h2;refine IMap.putD hv hs hT hMp (n:=s+1) ⟨_,_,?_,r⟩;simp[setBlock,hb2]
 rcases K.find w hkey es.toList F.keys with ⟨h1,h2⟩ | ⟨j,e0,h1,h2,h3⟩
 ·refine⟨z,clock,.map (es.push ⟨.int .i64 i,z,clock⟩) (clock+1),?_,fun w2 val hw2=>⟨.map (es.push ⟨.int .i64 i,val,clock⟩) (clock+1),?_,fin _ _ val ?_ w2 (Array.getElem?_eq_some_iff.1 hw2).1⟩⟩
  ·simp[Instr.mapEntry,run_underlying ht,MapKept.run_getObj_map hb,K.check w false hkey,h1,hz,MapKept.run_setObj_map _ hb,Result.andThen,setBlock]
  ·have hidx:(es.push ⟨.int .i64 i,z,clock⟩).findIdx? (fun e=>((e.born:Nat):Int)==((clock:Nat):Int))=some es.size:=by
    rw[WideElems.findIdx_arr];have hl:(es.push ⟨.int .i64 i,z,clock⟩).toList=es.toList++[⟨.int .i64 i,z,clock⟩]:=Array.toList_push ..
    have hnd:((es.push ⟨.int .i64 i,z,clock⟩).toList.map (·.born)).Nodup:=by
     rw[hl,List.map_append];refine List.nodup_append.2 ⟨s2,by simp,?_⟩;intro a ha c hc e1;simp only[List.map_cons,List.map_nil,List.mem_singleton] at hc;obtain⟨x,hx,hxb⟩:=List.mem_map.1 ha;have:=s1 x hx;omega
    exact WideElems.findIdx_born hnd (j:=es.size) (e0:=⟨.int .i64 i,z,clock⟩) (by rw[hl];simp)
   have hmod:(es.push ⟨.int .i64 i,z,clock⟩).modify es.size (fun e=> { e with val:=val })=es.push ⟨.int .i64 i,val,clock⟩:=by
    apply Array.ext'
    rw[Array.toList_modify,Array.toList_push,Array.toList_push,←Array.length_toList,WideElems.modify_last]
   simp[Instr.entryStore,MapKept.run_getObj_map hw2,asInt,asIntOf,goInt,hidx,hmod,MapKept.run_setObj_map _ hw2,Result.andThen,setBlock]
  ·simp[Instr.mapUpdate,run_underlying ht,MapKept.run_getObj_map hb,K.check w false hkey,h1,MapKept.run_setObj_map _ hb,Result.andThen,setBlock]
 ·have hj:es[j]? =some e0:=by simpa using h2
  have hsame:es.modify j (fun e=> { e with key:= .int .i64 i })=es:=by
   apply Array.ext'
   rw[Array.toList_modify,ChangeMaps.modify_eq_set _ _ _ _ h2];exact WideElems.set_self _ _ _ (by rw[h2,←h3])
  refine⟨e0.val,e0.born,.map es clock,?_,fun w2 val hw2=>⟨.map (es.modify j (fun e'=> { e' with key:= .int .i64 i,val:=val })) clock,?_,fin _ _ val ?_ w2 (Array.getElem?_eq_some_iff.1 hw2).1⟩⟩
  ·simp[Instr.mapEntry,run_underlying ht,MapKept.run_getObj_map hb,K.check w false hkey,h1,hj,h3,K.stays w hkey,hsame,MapKept.run_setObj_map _ hb,Result.andThen,setBlock]
  ·have hidx:es.findIdx? (fun e=>((e.born:Nat):Int)==((e0.born:Nat):Int))=some j:=by
    rw[WideElems.findIdx_arr];exact WideElems.findIdx_born s2 h2
   have hmod:es.modify j (fun e=> { e with val:=val })=es.modify j (fun e'=> { e' with key:= .int .i64 i,val:=val }):=by
    apply Array.ext'
    rw[Array.toList_modify,Array.toList_modify,ChangeMaps.modify_eq_set _ _ _ _ h2,ChangeMaps.modify_eq_set _ _ _ _ h2,←h3]
   simp[Instr.entryStore,MapKept.run_getObj_map hw2,asInt,asIntOf,goInt,hidx,hmod,MapKept.run_setObj_map _ hw2,Result.andThen,setBlock]
  ·simp[Instr.mapUpdate,run_underlying ht,MapKept.run_getObj_map hb,K.check w false hkey,h1,hj,h3,K.stays w hkey,MapKept.run_setObj_map _ hb,Result.andThen,setBlock]
end
section
open Go.RowKit
structure Bs where
 w:World
 F:Nat→Prop
 G:Nat→Prop
 up:∀k,w.heap.size≤k→F k
 sub:∀k,F k→G k
def Bs.of (w:World):Bs:=⟨w,fun k=>w.heap.size≤k,fun k=>w.heap.size≤k,fun _ h=>h,fun _ h=>h⟩
instance:Coe World Bs:=⟨Bs.of⟩
end
section
open Go.RowKit Go.Maps
def bv (bs:List Int):List Value:=bs.map (.int .u8)
theorem bv_len (bs:List Int):(bv bs).length=bs.length:=by simp[bv]
theorem bv_one (bs:List Int):∀u∈bv bs,u.oneCell'=true:=by
 intro u hu;obtain⟨x, -,rfl⟩:=List.mem_map.1 hu;rfl
theorem u8Info:(prog.info? 5).map (fun i=>(i.zero,i.size,i.bytes))=some (some (.int .u8 0),1,1):=by kernel_rfl
theorem bclone_any (A:Option Addr) (hA:A≠none) (bs:List Int) (c:Nat) (w:World) (hl:bs.length≤1000000) (hs:Sl w 1 A bs.length (bv bs)) :
  Calls prog 99 #[.slice A bs.length c] w fun e w'=>OwnOut w w' 5 1 bs.length (bv bs) (fun A c=> .slice A bs.length c) e:=by
 obtain⟨i0,hi0,hz0,hz1,hz2⟩:=info_parts u8Info
 cases A with
 | none=>exact absurd rfl hA
 | some a=>
  have hsl:=fun(w:World)=>Lib.run_eql_slice_nil (P:=prog) w 49 5 (some a) bs.length c 0 0 underlying49;have H:=yH hs
  have hcells:∀ (w1:World),Grew w w1→∀j u,(bv bs)[j]? =some u→w1.cell? (Addr.add a j)=some u:=by
   intro w1 hg j u hu;have hj:j< bs.length:=by have:=(List.getElem?_eq_some_iff.1 hu).1;rwa[bv_len] at this
   obtain⟨b,off,e,hb,hx⟩:=hs.2 (by omega)
   cases e
   rw[Addr.add_lit];exact(hg.cell (p:=⟨b,off+j,none⟩) hb id).trans (hx j u hu)
  have HC:=yH hcells;clear hs hA hcells;go_enter func99,ntmps99
  go_wp2_with (at_builtin;refine wpList_append_own _ rfl _ _ _ rfl w.heap.size 5 i0 _ 1 1 underlying49 hi0 hz0 hz1 hz2 rfl (by omega) (.slice (some ⟨w.heap.size,0,none⟩) 0 0) 0 [] rfl (World.ownsRow_lit w #[] 0 (Nat.le_refl _) (by simp[maxLen]) (by simp)) a bs.length c (bv bs) rfl (by simp[bv]) (HC.out _ ((Chg.refl _ _).alloc _)) (bv_one bs) (by simp only[maxLen];omega) (by omega) (by simp) ?_;intro v1 w1 hown1 hgrow hnil;have HO:=yH hown1;have HG:=yH hgrow;clear hown1 hgrow hnil)
  go_ret
  obtain⟨A',c',rfl, -⟩:=own_shape HO.out;refine OwnOut.mk A' c' ?_ ?_ ?_
  ·have:=HO.out;simp
  ·simpa using HO.out
  ·exact((Chg.refl NoF w).alloc _).grown HG.out (fun k hk hlt=>by simp[Value.ownBlock] at hk;omega)
end
section
open Go.RowKit
theorem news_one (w:World) (x:Value) (t:TypeId):∀j u,([x]:List Value)[j]? =some u→(w.alloc (.cells #[x] t)).cell? ((⟨w.heap.size,0,none⟩:Addr).add j)=some u:=by
 intro j u hu;have:=(Blk.new w t #[x]).cell j;rw[Addr.add_lit,Nat.zero_add];rw[this];simpa using hu
theorem u8Info_:(prog.info? 5).map (fun i=>(i.zero,i.size,i.bytes))=some (some (.int .u8 0),1,1):=by kernel_rfl
theorem app_byte {w:World} {ops:Array Oper} {rest:List Oper} {o:Oper} {a:Act} {Q:Exit→Act→World→Prop} (hgd:o.guard=none) (s x:Operand)
  (ho:o.op= .call { callee:= .builtin .append,args:= #[s,x],argTypes:= #[49,49] }) (base:Nat) (v:Value) (n:Nat) (xs:List Value) (hs:a.eval s=v) (hown:w.ownsRow base 5 1 v n xs)
  (e:Int) (hx:a.eval x= .slice (some ⟨w.heap.size,0,none⟩) 1 1) (hn:n≤1000000) (hb:base≤w.heap.size)
  (h:∀v' w',w'.ownsRow base 5 1 v' (n+1) (xs++[.int .u8 e])→Ap w w' v v'→wpList prog ops Q rest (a.put o.dst v') w') :
  wpList prog ops Q (o :: rest) a (w.alloc (.cells #[.int .u8 e] 5)):=by
 obtain⟨i0,hi0,hz0,hz1,hz2⟩:=info_parts u8Info_;refine wpList_append_own_at _ hgd s x 49 ho base 5 i0 _ 1 1 underlying49 hi0 hz0 hz1 hz2 rfl (by omega) v n xs hs (own_grew hown ((Chg.refl _ _).alloc _)) ⟨w.heap.size,0,none⟩ 1 1 [.int .u8 e] hx rfl (news_one _ _ _) (by simp[Value.oneCell']) (by simp only[maxLen];omega) (by omega) (by simp;omega) ?_;intro v1 w1 h1 h2 _ h4
 exact h v1 w1 h1 ((Ap.refl _ _).push ((Chg.refl _ _).alloc _) h2 h4)
theorem i64Info_:(prog.info? 3).map (fun i=>(i.zero,i.size,i.bytes))=some (some (.int .i64 0),1,8):=by kernel_rfl
theorem app_int {w:World} {ops:Array Oper} {rest:List Oper} {o:Oper} {a:Act} {Q:Exit→Act→World→Prop} (hgd:o.guard=none) (s x:Operand)
  (ho:o.op= .call { callee:= .builtin .append,args:= #[s,x],argTypes:= #[22,22] }) (base:Nat) (v:Value) (n:Nat) (xs:List Value) (hs:a.eval s=v) (hown:w.ownsRow base 3 1 v n xs)
  (e:Int) (hx:a.eval x= .slice (some ⟨w.heap.size,0,none⟩) 1 1) (hn:n≤1000000) (hb:base≤w.heap.size)
  (h:∀v' w',w'.ownsRow base 3 1 v' (n+1) (xs++[.int .i64 e])→Ap w w' v v'→wpList prog ops Q rest (a.put o.dst v') w') :
  wpList prog ops Q (o :: rest) a (w.alloc (.cells #[.int .i64 e] 3)):=by
 obtain⟨i0,hi0,hz0,hz1,hz2⟩:=info_parts i64Info_;refine wpList_append_own_at _ hgd s x 22 ho base 3 i0 _ 1 8 underlying22 hi0 hz0 hz1 hz2 rfl (by omega) v n xs hs (own_grew hown ((Chg.refl _ _).alloc _)) ⟨w.heap.size,0,none⟩ 1 1 [.int .i64 e] hx rfl (news_one _ _ _) (by simp[Value.oneCell']) (by simp only[maxLen];omega) (by omega) (by simp;omega) ?_;intro v1 w1 h1 h2 _ h4
 exact h v1 w1 h1 ((Ap.refl _ _).push ((Chg.refl _ _).alloc _) h2 h4)
theorem step_app_int {w:World} {ops:Array Oper} {o:Oper} {a:Act} {K:Act→World→Prop} {Q:Exit→Act→World→Prop} {E:Prop} (hgd:o.guard=none) (s x:Operand)
  (ho:o.op= .call { callee:= .builtin .append,args:= #[s,x],argTypes:= #[22,22] }) (base:Nat) (v:Value) (n:Nat) (xs:List Value) (hs:a.eval s=v) (hown:w.ownsRow base 3 1 v n xs)
  (e:Int) (hx:a.eval x= .slice (some ⟨w.heap.size,0,none⟩) 1 1) (hn:n≤1000000) (hb:base≤w.heap.size)
  (h:∀v' w',w'.ownsRow base 3 1 v' (n+1) (xs++[.int .i64 e])→Ap w w' v v'→K (a.put o.dst v') w') :
  if Region.wanted o (yielded ops a.tmps)=true then Oper.wp prog o a (w.alloc (.cells #[.int .i64 e] 3)) K Q else E:=by
 obtain⟨i0,hi0,hz0,hz1,hz2⟩:=info_parts i64Info_
 obtain⟨v1,w1,hr,h1,h2,_,h4⟩:=run_append_own_at (P:=prog) (w.alloc (.cells #[.int .i64 e] 3)) base 22 o.type 3 i0 _ 1 8 underlying22 hi0 hz0 hz1 hz2 rfl (by omega) v n xs (own_grew hown ((Chg.refl _ _).alloc _)) ⟨w.heap.size,0,none⟩ 1 1 [.int .i64 e] rfl (news_one _ _ _) (by simp[Value.oneCell']) (by simp only[maxLen];omega) (by omega) (by simp;omega)
 exact step_append_run hgd s x 22 ho hs hx hr (h v1 w1 h1 ((Ap.refl _ _).push ((Chg.refl _ _).alloc _) h2 h4))
end
section
def bitsN (f:Nat→Bool):Nat→Nat
 | 0=>0
 | n+1=>bitsN f n+if f n then 2 ^ n else 0
theorem bitsN_succ (f:Nat→Bool) (n:Nat):bitsN f (n+1)=bitsN f n+if f n then 2 ^ n else 0:=rfl
theorem bitsN_lt (f:Nat→Bool):∀n,bitsN f n< 2 ^ n
 | 0=>by simp[bitsN]
 | n+1=>by
  have:=bitsN_lt f n;unfold bitsN;rw[Nat.pow_succ];split<;>omega
theorem bitsN_bit (f:Nat→Bool):∀ (n j:Nat),(bitsN f n).testBit j=(decide (j< n) && f j)
 | 0,j=>by simp[bitsN]
 | n+1,j=>by
  have h:=Nat.testBit_two_pow_mul_add (if f n then 1 else 0) (bitsN_lt f n) j
  have e:bitsN f (n+1)=2 ^ n*(if f n then 1 else 0)+bitsN f n:=by
   rw[bitsN_succ];split<;>simp[Nat.add_comm]
  rw[e,h,bitsN_bit f n j];by_cases h1:j< n
  ·simp[h1];omega
  ·by_cases h2:j=n
   ·subst h2;cases f j<;>simp
   ·have h3:¬j< n+1:=by omega
    rw[if_neg h1];simp only[h3,decide_false,Bool.false_and];have:j - n=(j - n - 1)+1:=by omega
    rw[this];split<;>simp[Nat.testBit_succ]
theorem bitsN_ext {f g:Nat→Bool} {n:Nat} (h:∀j,j< n→f j=g j):bitsN f n=bitsN g n:=by
 apply Nat.eq_of_testBit_eq
 intro j;rw[bitsN_bit,bitsN_bit];by_cases hj:j< n
 ·rw[h j hj]
 ·simp[hj]
def cntN (f:Nat→Bool):Nat→Nat
 | 0=>0
 | n+1=>cntN f n+if f n then 1 else 0
theorem cntN_succ (f:Nat→Bool) (n:Nat):cntN f (n+1)=cntN f n+if f n then 1 else 0:=rfl
theorem cntN_add (f:Nat→Bool) (a:Nat):∀b,cntN f (a+b)=cntN f a+cntN (fun j=>f (a+j)) b
 | 0=>rfl
 | b+1=>by rw[←Nat.add_assoc,cntN_succ,cntN_succ,cntN_add f a b];omega
theorem bitsN_add (f:Nat→Bool) (a:Nat):∀b,bitsN f (a+b)=bitsN f a+2 ^ a*bitsN (fun j=>f (a+j)) b
 | 0=>by simp[bitsN]
 | b+1=>by
  rw[←Nat.add_assoc,bitsN_succ,bitsN_succ,bitsN_add f a b];split
  ·rw[Nat.mul_add,Nat.pow_add];omega
  ·simp
theorem and_split {a b c M:Nat} (ha:a< 256) (hc:c< 256):(256*b+a) &&& (256*M+c)=256*(b &&& M)+(a &&& c):=by
 have hac:a &&& c< 2 ^ 8:=Nat.and_lt_two_pow _ (by omega);apply Nat.eq_of_testBit_eq
 intro j;rw[Nat.testBit_and];have e:=fun(q:Nat) {r:Nat} (h:r< 2 ^ 8)=>Nat.testBit_two_pow_mul_add q h j;have e8:(256:Nat)=2 ^ 8:=by decide
 rw[e8,e b (by omega),e M (by omega),e (b &&& M) hac];by_cases hj:j< 8<;>simp[hj]
def s1 (b:Nat):Nat:=(b / 2 &&& 85)+(b &&& 85)
def s2 (b:Nat):Nat:=(s1 b / 4 &&& 51)+(s1 b &&& 51)
def msk (c:Nat):Nat→Nat
 | 0=>0
 | n+1=>256*msk c n+c
theorem lo1:∀b:Fin 256,∀q:Fin 2,((b.val / 2+128*q.val) &&& 85)=(b.val / 2 &&& 85)∧s1 b.val< 256:=by decide+kernel
theorem lo2:∀b:Fin 256,∀q:Fin 4,((b.val / 4+64*q.val) &&& 51)=(b.val / 4 &&& 51):=by decide+kernel
theorem lo3:∀b:Fin 256,s2 b.val< 256∧s2 b.val % 16≤4∧s2 b.val / 16≤4∧s1 b.val< 256:=by decide+kernel
theorem lo4:∀a:Fin 5,∀b:Fin 5,∀q:Fin 5,((16*a.val+b.val) / 16+(16*a.val+b.val)+16*q.val) &&& 15=a.val+b.val:=by decide+kernel
theorem st1 (b y n:Nat) (hb:b< 256):((256*y+b) / 2 &&& msk 85 (n+1))+((256*y+b) &&& msk 85 (n+1))=256*((y / 2 &&& msk 85 n)+(y &&& msk 85 n))+s1 b:=by
 have e:(256*y+b) / 2=256*(y / 2)+(b / 2+128*(y % 2)):=by omega
 have h:=(lo1 ⟨b,hb⟩ ⟨y % 2,by omega⟩).1;simp only[] at h;rw[e,msk,and_split (by omega) (by omega),and_split hb (by omega),h];unfold s1;omega
theorem st2 (b y n:Nat) (hb:b< 256):((256*y+b) / 4 &&& msk 51 (n+1))+((256*y+b) &&& msk 51 (n+1))=256*((y / 4 &&& msk 51 n)+(y &&& msk 51 n))+((b / 4 &&& 51)+(b &&& 51)):=by
 have e:(256*y+b) / 4=256*(y / 4)+(b / 4+64*(y % 4)):=by omega
 have h:=lo2 ⟨b,hb⟩ ⟨y % 4,by omega⟩;simp only[] at h;rw[e,msk,and_split (by omega) (by omega),and_split hb (by omega),h];omega
theorem st3 (p q y n:Nat) (hp:p≤4) (hq:q≤4) (hy:y % 16≤4):((256*y+(16*p+q)) / 16+(256*y+(16*p+q)) &&& msk 15 (n+1))=256*(y / 16+y &&& msk 15 n)+(p+q):=by
 have e:(256*y+(16*p+q)) / 16+(256*y+(16*p+q))=256*(y / 16+y)+((16*p+q) / 16+(16*p+q)+16*(y % 16)):=by omega
 have h:=lo4 ⟨p,by omega⟩ ⟨q,by omega⟩ ⟨y % 16,by omega⟩;simp only[] at h;rw[e,msk,and_split (by omega) (by omega),h]
def byt:List Nat→Nat
 | []=>0
 | b :: l=>256*byt l+b
theorem step1:∀l:List Nat,(∀b∈l,b< 256)→(byt l / 2 &&& msk 85 l.length)+(byt l &&& msk 85 l.length)=byt (l.map s1)
 | [],_=>rfl
 | b :: l,h=>by
  rw[List.length_cons,byt,st1 b _ _ (h b (by simp)),step1 l fun c hc=>h c (by simp[hc])];rfl
theorem step2:∀l:List Nat,(∀b∈l,b< 256)→(byt l / 4 &&& msk 51 l.length)+(byt l &&& msk 51 l.length)=byt (l.map fun b=>(b / 4 &&& 51)+(b &&& 51))
 | [],_=>rfl
 | b :: l,h=>by
  rw[List.length_cons,byt,st2 b _ _ (h b (by simp)),step2 l fun c hc=>h c (by simp[hc])];rfl
theorem step3:∀l:List Nat,(∀b∈l,b % 16≤4∧b / 16≤4)→(byt l / 16+byt l &&& msk 15 l.length)=byt (l.map fun b=>b / 16+b % 16)
 | [],_=>rfl
 | b :: l,h=>by
  have hb:=h b (by simp)
  have hl:byt l % 16≤4:=by
   cases l with
   | nil=>simp[byt]
   | cons c l=>have:=(h c (by simp)).1;unfold byt;omega
  have e:b=16*(b / 16)+b % 16:=by omega
  rw[List.length_cons,byt];rw[show(256*byt l+b)=256*byt l+(16*(b / 16)+b % 16) by omega,st3 _ _ _ _ hb.2 hb.1 hl,step3 l fun c hc=>h c (by simp[hc])];simp only[List.map_cons,byt]
theorem pop8:∀b0 b1 b2 b3 b4 b5 b6 b7:Bool,s2 (bitsN (fun j=>[b0,b1,b2,b3,b4,b5,b6,b7].getD j false) 8) / 16+s2 (bitsN (fun j=>[b0,b1,b2,b3,b4,b5,b6,b7].getD j false) 8) % 16=cntN (fun j=>[b0,b1,b2,b3,b4,b5,b6,b7].getD j false) 8:=by decide+kernel
theorem cntN_ext {f g:Nat→Bool}:∀ {n:Nat},(∀j,j< n→f j=g j)→cntN f n=cntN g n
 | 0,_=>rfl
 | n+1,h=>by unfold cntN;rw[cntN_ext fun j hj=>h j (by omega),h n (by omega)]
theorem pop_byte (f:Nat→Bool):s2 (bitsN f 8) / 16+s2 (bitsN f 8) % 16=cntN f 8:=by
 have h:=pop8 (f 0) (f 1) (f 2) (f 3) (f 4) (f 5) (f 6) (f 7)
 have e:∀j,j< 8→f j=[f 0,f 1,f 2,f 3,f 4,f 5,f 6,f 7].getD j false:=by
  intro j hj
  match j,hj with
  | 0,_=>rfl
  | 1,_=>rfl
  | 2,_=>rfl
  | 3,_=>rfl
  | 4,_=>rfl
  | 5,_=>rfl
  | 6,_=>rfl
  | 7,_=>rfl
 rw[bitsN_ext e,cntN_ext e];exact h
theorem cntN_le (f:Nat→Bool):∀n,cntN f n≤n
 | 0=>Nat.le_refl _
 | n+1=>by have:=cntN_le f n;unfold cntN;split<;>omega
theorem sum8 {p0 p1 p2 p3 p4 p5 p6 p7:Nat} (h0:p0≤8) (h1:p1≤8) (h2:p2≤8) (h3:p3≤8) (h4:p4≤8) (h5:p5≤8) (h6:p6≤8) (h7:p7≤8) (a3 a4 a5 a6:Nat)
  (e3:a3=byt [p0,p1,p2,p3,p4,p5,p6,p7]) (e4:a4=a3+a3 / 256) (e5:a5=a4+a4 / 65536) (e6:a6=a5+a5 / 4294967296):a3< 18446744073709551616∧a4< 18446744073709551616∧a5< 18446744073709551616∧a6< 18446744073709551616∧a6 % 128=p0+p1+p2+p3+p4+p5+p6+p7:=by
 simp only[byt] at e3;have d3:a3 / 256=256*(256*(256*(256*(256*(256*p7+p6)+p5)+p4)+p3)+p2)+p1:=by omega
 rw[d3] at e4;have d4:a4 / 65536=256*(256*(256*(256*(256*p7+(p6+p7))+(p5+p6))+(p4+p5))+(p3+p4))+(p2+p3):=by omega
 rw[d4] at e5;have d5:a5 / 4294967296=256*(256*(256*p7+(p6+p7))+(p5+p6+p7))+(p4+p5+p6+p7):=by omega
 rw[d5] at e6;have b3:a3< 18446744073709551616:=by clear d3 d4 d5 e4 e5 e6;omega
 have b4:a4< 18446744073709551616:=by clear d3 d4 d5 e5 e6;omega
 have f5:a5=256*(256*(256*(256*(256*(256*(256*p7+(p6+p7))+(p5+p6+p7))+(p4+p5+p6+p7))+(p3+p4+p5+p6))+(p2+p3+p4+p5))+(p1+p2+p3+p4))+(p0+p1+p2+p3):=by
  clear d3 d4 d5 e6 b3 b4;omega
 clear d3 d4 d5 e3 e4 e5;have b5:a5< 18446744073709551616:=by clear e6 b3 b4;omega
 have f6:∃X,X< 72057594037927936 - 1∧a6=256*X+(p0+p1+p2+p3+p4+p5+p6+p7):=by
  refine⟨256*(256*(256*(256*(256*(256*p7+(p6+p7))+(p5+p6+p7))+(p4+p5+p6+p7))+(p3+p4+p5+p6+p7))+(p2+p3+p4+p5+p6+p7))+(p1+p2+p3+p4+p5+p6+p7),?_,?_⟩
  ·clear e6 f5 b3 b4 b5;omega
  ·clear b3 b4 b5;omega
 clear e6 f5;obtain⟨X,hX,rfl⟩:=f6;exact⟨b3,b4,b5,by omega,by omega⟩
theorem byt_bd (m:Nat):∀l:List Nat,(∀b∈l,b≤m)→255*byt l+m≤m*256 ^ l.length
 | [],_=>by simp[byt]
 | b :: l,h=>by
  have h1:=byt_bd m l fun c hc=>h c (by simp[hc]);have h2:=h b (by simp);rw[List.length_cons,Nat.pow_succ,←Nat.mul_assoc];unfold byt;omega
theorem byt8 (f:Nat→Bool):bitsN f 64=byt [bitsN f 8,bitsN (fun j=>f (8+j)) 8,bitsN (fun j=>f (16+j)) 8,bitsN (fun j=>f (24+j)) 8,bitsN (fun j=>f (32+j)) 8,bitsN (fun j=>f (40+j)) 8,bitsN (fun j=>f (48+j)) 8,bitsN (fun j=>f (56+j)) 8]:=by
 rw[show(64:Nat)=56+8 from rfl,bitsN_add,show(56:Nat)=48+8 from rfl,bitsN_add,show(48:Nat)=40+8 from rfl,bitsN_add,show(40:Nat)=32+8 from rfl,bitsN_add,show(32:Nat)=24+8 from rfl,bitsN_add,show(24:Nat)=16+8 from rfl,bitsN_add,show(16:Nat)=8+8 from rfl,bitsN_add];simp only[byt,Nat.reduceAdd,Nat.reducePow];omega
theorem cnt8 (f:Nat→Bool):cntN f 64=cntN f 8+cntN (fun j=>f (8+j)) 8+cntN (fun j=>f (16+j)) 8+cntN (fun j=>f (24+j)) 8+cntN (fun j=>f (32+j)) 8+cntN (fun j=>f (40+j)) 8+cntN (fun j=>f (48+j)) 8+cntN (fun j=>f (56+j)) 8:=by
 rw[show(64:Nat)=56+8 from rfl,cntN_add,show(56:Nat)=48+8 from rfl,cntN_add,show(48:Nat)=40+8 from rfl,cntN_add,show(40:Nat)=32+8 from rfl,cntN_add,show(32:Nat)=24+8 from rfl,cntN_add,show(24:Nat)=16+8 from rfl,cntN_add,show(16:Nat)=8+8 from rfl,cntN_add]
theorem ones_law (f:Nat→Bool) (x a1 a2 a3 a4 a5 a6:Nat) (hx:x=bitsN f 64) (e1:a1=(x / 2 &&& 6148914691236517205)+(x &&& 6148914691236517205)) (e2:a2=(a1 / 4 &&& 3689348814741910323)+(a1 &&& 3689348814741910323))
  (e3:a3=(a2 / 16+a2 &&& 1085102592571150095)) (e4:a4=a3+a3 / 256) (e5:a5=a4+a4 / 65536) (e6:a6=a5+a5 / 4294967296) :
  a1< 18446744073709551616∧a2< 18446744073709551616∧a2 / 16+a2< 18446744073709551616∧a3< 18446744073709551616∧a4< 18446744073709551616∧a5< 18446744073709551616∧a6< 18446744073709551616∧a6 % 128=cntN f 64:=by
 obtain⟨l,hl⟩:∃l,[bitsN f 8,bitsN (fun j=>f (8+j)) 8,bitsN (fun j=>f (16+j)) 8,bitsN (fun j=>f (24+j)) 8,bitsN (fun j=>f (32+j)) 8,bitsN (fun j=>f (40+j)) 8,bitsN (fun j=>f (48+j)) 8,bitsN (fun j=>f (56+j)) 8]=l:=⟨_,rfl⟩;have hlen:l.length=8:=by rw[←hl];rfl
 have hb:∀b∈l,b< 256:=by
  intro b hb;rw[←hl] at hb;simp only[List.mem_cons,List.not_mem_nil,or_false] at hb;rcases hb with rfl | rfl | rfl | rfl | rfl | rfl | rfl | rfl<;>exact bitsN_lt _ 8
 rw[byt8 f,hl] at hx;have hm1:msk 85 l.length=6148914691236517205:=by rw[hlen];decide+kernel
 have hm2:msk 51 l.length=3689348814741910323:=by rw[hlen];decide+kernel
 have hm3:msk 15 l.length=1085102592571150095:=by rw[hlen];decide+kernel
 have h1:=step1 l hb;rw[hm1,←hx,←e1] at h1
 have h2:=step2 (l.map s1) (by
   intro b hb';obtain⟨c,hc,rfl⟩:=List.mem_map.1 hb';exact(lo3 ⟨c,hb c hc⟩).2.2.2)
 rw[List.length_map,hm2,←h1,←e2,List.map_map] at h2;have h2':a2=byt (l.map s2):=h2
 have h3:=step3 (l.map s2) (by
  intro b hb';obtain⟨c,hc,rfl⟩:=List.mem_map.1 hb';exact⟨(lo3 ⟨c,hb c hc⟩).2.1,(lo3 ⟨c,hb c hc⟩).2.2.1⟩)
 rw[List.length_map,hm3,←h2',←e3,List.map_map] at h3
 have b1:=byt_bd 255 (l.map s1) (by
   intro b hb';obtain⟨c,hc,rfl⟩:=List.mem_map.1 hb';have:=(lo3 ⟨c,hb c hc⟩).2.2.2;simp only[] at this;omega)
 rw[←h1,List.length_map,hlen] at b1
 have b2:=byt_bd 68 (l.map s2) (by
   intro b hb';obtain⟨c,hc,rfl⟩:=List.mem_map.1 hb';have:=lo3 ⟨c,hb c hc⟩;simp only[] at this;omega)
 rw[←h2',List.length_map,hlen] at b2
 have h3':a3=byt [cntN f 8,cntN (fun j=>f (8+j)) 8,cntN (fun j=>f (16+j)) 8,cntN (fun j=>f (24+j)) 8,cntN (fun j=>f (32+j)) 8,cntN (fun j=>f (40+j)) 8,cntN (fun j=>f (48+j)) 8,cntN (fun j=>f (56+j)) 8]:=by
  rw[h3,←hl];simp only[List.map_cons,List.map_nil,Function.comp,pop_byte]
 obtain⟨r3,r4,r5,r6,r7⟩:=sum8 (cntN_le _ 8) (cntN_le _ 8) (cntN_le _ 8) (cntN_le _ 8) (cntN_le _ 8) (cntN_le _ 8) (cntN_le _ 8) (cntN_le _ 8) a3 a4 a5 a6 h3' e4 e5 e6;rw[cnt8 f];exact⟨by omega,by omega,by omega,r3,r4,r5,r6,r7⟩
end
section
theorem getD_set (x:List Bool) (i m:Nat) (b:Bool) (hi:i< x.length):(x.set i b).getD m false=if m=i then b else x.getD m false:=by
 rw[List.getD_eq_getElem?_getD,List.getD_eq_getElem?_getD,List.getElem?_set];by_cases h:i=m
 ·subst h;simp[hi]
 ·simp[h,Ne.symm h]
def wd (x:List Bool) (k:Nat):Nat:=bitsN (fun j=>x.getD (64*k+j) false) 64
def nw (x:List Bool):Nat:=(x.length+63) / 64
def wds (x:List Bool):List Value:=(List.range (nw x)).map fun k=> .int .u64 (wd x k)
theorem wd_lt (x:List Bool) (k:Nat):wd x k< 18446744073709551616:=bitsN_lt _ 64
theorem wd_bit (x:List Bool) (k j:Nat):(wd x k).testBit j=(decide (j< 64) && x.getD (64*k+j) false):=bitsN_bit _ 64 j
theorem wds_len (x:List Bool):(wds x).length=nw x:=by simp[wds]
theorem wds_at {x:List Bool} {k:Nat} (hk:k< nw x):(wds x)[k]? =some (.int .u64 (wd x k)):=by simp[wds,hk]
theorem nw_le (x:List Bool):nw x≤x.length:=by unfold nw;omega
theorem in_nw {x:List Bool} {i:Nat} (hi:i< x.length):i / 64< nw x:=by unfold nw;omega
theorem nw_set (x:List Bool) (i:Nat) (b:Bool):nw (x.set i b)=nw x:=by unfold nw;simp
theorem wd_turn {x:List Bool} {i:Nat} (hi:i< x.length) (k:Nat):wd (x.set i (!x.getD i false)) k=if k=i / 64 then wd x k ^^^ 2 ^ (i % 64) else wd x k:=by
 apply Nat.eq_of_testBit_eq
 intro j;by_cases hk:k=i / 64
 ·rw[if_pos hk,wd_bit,Nat.testBit_xor,wd_bit,Nat.testBit_two_pow,getD_set _ _ _ _ hi]
  by_cases hj:j< 64
  ·by_cases he:64*k+j=i
   ·have:i % 64=j:=by omega
    simp[hj,he,this]
   ·have:¬i % 64=j:=by omega
    simp[hj,he,this]
  ·have:¬i % 64=j:=by omega
   simp[hj,this]
 ·rw[if_neg hk,wd_bit,wd_bit,getD_set _ _ _ _ hi]
  by_cases hj:j< 64
  ·rw[if_neg (by omega)]
  ·simp[hj]
theorem wds_turn {x:List Bool} {i:Nat} (hi:i< x.length):(wds x).set (i / 64) (.int .u64 ((wd x (i / 64) ^^^ 2 ^ (i % 64):Nat):Int))=wds (x.set i (!x.getD i false)):=by
 apply List.ext_getElem?
 intro k;rw[List.getElem?_set];by_cases hk:k< nw x
 ·rw[wds_at (x:=x.set i (!x.getD i false)) (by rw[nw_set];exact hk),wd_turn hi]
  by_cases h:i / 64=k
  ·subst h
   rw[if_pos rfl,if_pos (by rw[wds_len];exact hk),if_pos rfl]
  ·rw[if_neg h,if_neg (Ne.symm h),wds_at hk]
 ·have h1:(wds (x.set i (!x.getD i false)))[k]? =none:=by rw[List.getElem?_eq_none];rw[wds_len,nw_set];omega
  have h2:(wds x)[k]? =none:=by rw[List.getElem?_eq_none];rw[wds_len];omega
  have:=in_nw hi;rw[if_neg (by omega),h1,h2]
theorem wd_has {x:List Bool} {i:Nat}:wd x (i / 64) / 2 ^ (i % 64) % 2=if x.getD i false then 1 else 0:=by
 have h:=wd_bit x (i / 64) (i % 64);rw[Nat.testBit_eq_decide_div_mod_eq] at h;have e:64*(i / 64)+i % 64=i:=by omega
 have hlt:i % 64< 64:=by omega
 rw[e] at h;simp only[hlt,decide_true,Bool.true_and] at h
 cases hx:x.getD i false with
 | true=>rw[hx] at h;simpa using h
 | false=>rw[hx] at h;simp only[decide_eq_false_iff_not] at h;rw[if_neg (by simp)];omega
def nxt (x:List Bool) (i:Nat):Option Nat:=(List.range x.length).find? fun j=>decide (i≤j) && x.getD j false
theorem nxt_some {x:List Bool} {i j:Nat}:nxt x i=some j↔i≤j∧j< x.length∧x.getD j false=true∧∀m,i≤m→m< j→x.getD m false=false:=by
 unfold nxt;rw[List.find?_range_eq_some];simp only[Bool.and_eq_true,decide_eq_true_eq,List.mem_range,Bool.not_eq_eq_eq_not,Bool.not_true,Bool.and_eq_false_imp];constructor
 ·rintro⟨⟨h1,h2⟩,h3,h4⟩
  exact⟨h1,h3,h2,fun m h5 h6=>h4 m h6 h5⟩
 ·rintro⟨h1,h2,h3,h4⟩
  exact⟨⟨h1,h3⟩,h2,fun m h5 h6=>h4 m h6 h5⟩
theorem nxt_none {x:List Bool} {i:Nat}:nxt x i=none↔∀m,i≤m→x.getD m false=false:=by
 unfold nxt;rw[List.find?_eq_none];simp only[List.mem_range,Bool.and_eq_true,decide_eq_true_eq,not_and,Bool.not_eq_true];constructor
 ·intro h m hm
  by_cases hx:m< x.length
  ·exact h m hx hm
  ·rw[List.getD_eq_getElem?_getD,List.getElem?_eq_none (by omega)];rfl
 ·intro h m _ hm
  exact h m hm
theorem ctz_bits {w:Nat} (h0:w≠0) (h:w< 18446744073709551616):Lib.ctz 64 w< 64∧w.testBit (Lib.ctz 64 w)=true∧∀j,j< Lib.ctz 64 w→w.testBit j=false:=by
 obtain⟨m,hm,hlt⟩:=Lib.ctzFrom_spec 64 w (by omega) h;have e:Lib.ctz 64 w=Lib.ctzFrom 64 w:=by unfold Lib.ctz;rw[if_neg h0]
 rw[e];generalize Lib.ctzFrom 64 w=c at*
 rw[Nat.mul_comm] at hm;refine⟨hlt,?_,fun j hj=>?_⟩
 ·rw[hm,Nat.testBit_mul_two_pow]
  simp[Nat.testBit_zero]
 ·rw[hm,Nat.testBit_mul_two_pow]
  have:¬c≤j:=by omega
  simp[this]
theorem zero_bits {w:Nat} (h:w=0) (j:Nat):w.testBit j=false:=by subst h;simp
theorem low_off {w s:Nat} (j:Nat):(w / 2 ^ s*2 ^ s).testBit j=(decide (s≤j) && w.testBit j):=by
 rw[Nat.testBit_mul_two_pow,Nat.testBit_div_two_pow];by_cases h:s≤j
 ·simp only[h,decide_true,Bool.true_and]
  congr 1
  omega
 ·simp[h]
theorem low_off_lt {w s:Nat} (h:w< 18446744073709551616):w / 2 ^ s*2 ^ s< 18446744073709551616:=Nat.lt_of_le_of_lt (Nat.div_mul_le_self _ _) h
theorem nxt_hit {x:List Bool} {i k w:Nat} (hno:∀m,i≤m→m< 64*k→x.getD m false=false) (hik:i / 64≤k) (hk:k< nw x) (hw:w=if k=i / 64 then wd x k / 2 ^ (i % 64)*2 ^ (i % 64) else wd x k) (h0:w≠0) :
  w< 18446744073709551616∧nxt x i=some (64*k+Lib.ctz 64 w):=by
 have hlt:w< 18446744073709551616:=by
  rw[hw];split
  ·exact low_off_lt (wd_lt _ _)
  ·exact wd_lt _ _
 obtain⟨c1,c2,c3⟩:=ctz_bits h0 hlt
 have hb:∀j,w.testBit j=(decide (i≤64*k+j) && (decide (j< 64) && x.getD (64*k+j) false)):=by
  intro j;rw[hw];split
  ·rename_i e
   rw[low_off,wd_bit];have:decide (i % 64≤j)=decide (i≤64*k+j):=decide_eq_decide.2 (by omega);rw[this]
  ·rename_i e
   rw[wd_bit];have:i≤64*k+j:=by omega
   simp[this]
 rw[hb] at c2;simp only[Bool.and_eq_true,decide_eq_true_eq] at c2;refine⟨hlt,nxt_some.2 ⟨c2.1,?_,c2.2.2,fun m h1 h2=>?_⟩⟩
 ·apply Nat.lt_of_not_le
  intro h;have:=c2.2.2;rw[List.getD_eq_getElem?_getD,List.getElem?_eq_none h] at this
  cases this
 ·by_cases hm:m< 64*k
  ·exact hno m h1 hm
  ·have h3:=c3 (m - 64*k) (by omega)
   rw[hb] at h3;have e:64*k+(m - 64*k)=m:=by omega
   rw[e] at h3;have e2:m - 64*k< 64:=by omega
   simpa [h1,e2] using h3
theorem nxt_miss {x:List Bool} {i k w:Nat} (hno:∀m,i≤m→m< 64*k→x.getD m false=false) (hik:i / 64≤k) (hw:w=if k=i / 64 then wd x k / 2 ^ (i % 64)*2 ^ (i % 64) else wd x k) (h0:w=0) :
  ∀m,i≤m→m< 64*(k+1)→x.getD m false=false:=by
 intro m h1 h2;by_cases hm:m< 64*k
 ·exact hno m h1 hm
 ·have e:64*k+(m - 64*k)=m:=by omega
  have e2:m - 64*k< 64:=by omega
  have h3:(wd x k).testBit (m - 64*k)=x.getD m false:=by rw[wd_bit,e];simp[e2]
  rw[←h3];split at hw
  ·rename_i ek
   have h4:=zero_bits h0 (m - 64*k);rw[hw,low_off] at h4;have e3:i % 64≤m - 64*k:=by omega
   simpa [e3] using h4
  ·rw[←hw];exact zero_bits h0 _
theorem nxt_end {x:List Bool} {i k:Nat} (hno:∀m,i≤m→m< 64*k→x.getD m false=false) (hk:nw x≤k):nxt x i=none:=by
 rw[nxt_none];intro m hm;by_cases hx:m< 64*k
 ·exact hno m hm hx
 ·rw[List.getD_eq_getElem?_getD,List.getElem?_eq_none]
  ·rfl
  ·unfold nw at hk;omega
def cnt (x:List Bool):Nat:=cntN (fun j=>x.getD j false) x.length
theorem cntN_false {f:Nat→Bool}:∀ {n:Nat},(∀j,j< n→f j=false)→cntN f n=0
 | 0,_=>rfl
 | n+1,h=>by rw[cntN_succ,cntN_false fun j hj=>h j (by omega),h n (by omega)];rfl
theorem cnt_words (x:List Bool):cntN (fun j=>x.getD j false) (64*nw x)=cnt x:=by
 have e:64*nw x=x.length+(64*nw x - x.length):=by unfold nw;omega
 rw[e,cntN_add];unfold cnt;rw[cntN_false (n:=64*nw x - x.length)]
 ·rfl
 ·intro j _
  rw[List.getD_eq_getElem?_getD,List.getElem?_eq_none (by omega)];rfl
theorem cnt_word (x:List Bool) (k:Nat):cntN (fun j=>x.getD j false) (64*(k+1))=cntN (fun j=>x.getD j false) (64*k)+cntN (fun j=>x.getD (64*k+j) false) 64:=by
 rw[show 64*(k+1)=64*k+64 by omega,cntN_add]
end
section
open Go.RowKit
theorem tz_core (x k idx:Nat) (w:World) (hx0:((x:Int)==0)=false)
  (key:IntKind.u64.wrap (bits BinOp.and IntKind.u64 (x:Int) (IntKind.u64.wrap (-(x:Int)))*285870213051353865) / 288230376151711744=(idx:Int))
  (hi:idx< 64) (hk:k< 64) (hcell:w.cell? ⟨0,idx,none⟩=some (.int .u8 k)) :
  Calls prog 131 #[.int .u64 x] w fun e w'=>e= .returned (.int .i64 k)∧w=w':=by
 go_enter func131,ntmps131
 go_wp2_with (simp only[key])
 go_ret
 exact⟨rfl,rfl⟩
theorem tz_any (x:Nat) (hx:x< 18446744073709551616) (hx0:x≠0) (w:World) (hT:TabAt 0 Lib.deBruijn64tab w) :
  Calls prog 131 #[.int .u64 x] w fun e w'=>e= .returned (.int .i64 (Lib.ctz 64 x))∧w=w':=by
 obtain⟨hlow,hk⟩:=Lib.lowest_bit 64 x hx0 hx;obtain⟨hi,htab⟩:=Lib.deBruijn64_at _ hk;have hcell:=hT _ hi;rw[htab] at hcell;exact tz_core x _ _ w (by simp;omega) (tz64_key x _ hx hx0 hlow) hi hk hcell
def on1 (x:Int):Int:=IntKind.u64.wrap (bits BinOp.and IntKind.u64 (x / 2) 6148914691236517205+bits BinOp.and IntKind.u64 x 6148914691236517205)
def on2 (x:Int):Int:=IntKind.u64.wrap (bits BinOp.and IntKind.u64 (x / 4) 3689348814741910323+bits BinOp.and IntKind.u64 x 3689348814741910323)
def on3 (x:Int):Int:=bits BinOp.and IntKind.u64 (IntKind.u64.wrap (x / 16+x)) 1085102592571150095
def on4 (x:Int):Int:=IntKind.u64.wrap (x+x / 256)
def on5 (x:Int):Int:=IntKind.u64.wrap (x+x / 65536)
def on6 (x:Int):Int:=IntKind.u64.wrap (x+x / 4294967296)
def on7 (x:Int):Int:=bits BinOp.and IntKind.i64 (wrap64 x) 127
theorem wrapU {n:Nat} (h:n< 18446744073709551616):IntKind.u64.wrap (n:Int)=n:=by rw[IntKind.wrap_u64];omega
theorem on1_eq {x a:Nat} (hx:x< 18446744073709551616) (ha:a=(x / 2 &&& 6148914691236517205)+(x &&& 6148914691236517205)) (hl:a< 18446744073709551616):on1 (x:Int)=a:=by
 have h1:=bits_and_u64_nat (x / 2) 6148914691236517205 (by omega) (by decide);have h2:=bits_and_u64_nat x 6148914691236517205 hx (by decide);unfold on1;rw[show(x:Int) / 2=((x / 2:Nat):Int) by omega];rw[show(6148914691236517205:Int)=((6148914691236517205:Nat):Int) from rfl,h1,h2,←Int.natCast_add,←ha,wrapU hl]
theorem on2_eq {x a:Nat} (hx:x< 18446744073709551616) (ha:a=(x / 4 &&& 3689348814741910323)+(x &&& 3689348814741910323)) (hl:a< 18446744073709551616):on2 (x:Int)=a:=by
 have h1:=bits_and_u64_nat (x / 4) 3689348814741910323 (by omega) (by decide);have h2:=bits_and_u64_nat x 3689348814741910323 hx (by decide);unfold on2;rw[show(x:Int) / 4=((x / 4:Nat):Int) by omega];rw[show(3689348814741910323:Int)=((3689348814741910323:Nat):Int) from rfl,h1,h2,←Int.natCast_add,←ha,wrapU hl]
theorem on3_eq {x a:Nat} (hx:x / 16+x< 18446744073709551616) (ha:a=(x / 16+x &&& 1085102592571150095)):on3 (x:Int)=a:=by
 have h1:=bits_and_u64_nat (x / 16+x) 1085102592571150095 hx (by decide);unfold on3;rw[show(x:Int) / 16+x=((x / 16+x:Nat):Int) by omega,wrapU hx];rw[show(1085102592571150095:Int)=((1085102592571150095:Nat):Int) from rfl,h1,←ha]
theorem on4_eq {x a:Nat} (ha:a=x+x / 256) (hl:a< 18446744073709551616):on4 (x:Int)=a:=by
 unfold on4;rw[show(x:Int)+x / 256=((a:Nat):Int) by omega,wrapU hl]
theorem on5_eq {x a:Nat} (ha:a=x+x / 65536) (hl:a< 18446744073709551616):on5 (x:Int)=a:=by
 unfold on5;rw[show(x:Int)+x / 65536=((a:Nat):Int) by omega,wrapU hl]
theorem on6_eq {x a:Nat} (ha:a=x+x / 4294967296) (hl:a< 18446744073709551616):on6 (x:Int)=a:=by
 unfold on6;rw[show(x:Int)+x / 4294967296=((a:Nat):Int) by omega,wrapU hl]
theorem on7_eq {x:Nat}:on7 (x:Int)=((x % 128:Nat):Int):=by
 unfold on7;rw[←IntWalk.i64_left]
 have h1:(BitVec.ofInt 64 (IntKind.i64.wrap (x:Int))).toNat % 128=x % 128:=by
  rw[IntKind.wrap_i64,BitVec.toNat_ofInt];omega
 have h3:(BitVec.ofInt 64 127).toNat=127:=by decide
 show IntKind.i64.wrap ((BitVec.ofInt 64 (IntKind.i64.wrap (x:Int)) &&& BitVec.ofInt 64 127).toNat:Int)=_;rw[BitVec.toNat_and,h3];have h4:=Nat.and_two_pow_sub_one_eq_mod (BitVec.ofInt 64 (IntKind.i64.wrap (x:Int))).toNat 7;rw[show(2 ^ 7 - 1:Nat)=127 from rfl,show(2 ^ 7:Nat)=128 from rfl] at h4;rw[h4,h1,IntKind.wrap_i64];omega
theorem on_all (f:Nat→Bool):on7 (on6 (on5 (on4 (on3 (on2 (on1 (bitsN f 64:Nat)))))))=(cntN f 64:Nat):=by
 obtain⟨b1,b2,b2',b3,b4,b5,b6,h⟩:=ones_law f (bitsN f 64) _ _ _ _ _ _ rfl rfl rfl rfl rfl rfl rfl;rw[on1_eq (bitsN_lt f 64) rfl b1,on2_eq b1 rfl b2,on3_eq b2' rfl,on4_eq rfl b4,on5_eq rfl b5,on6_eq rfl b6,on7_eq,h]
theorem ones_core (x:Nat) (w:World) (h0:(x:Int)< 18446744073709551616) :
  Calls prog 157 #[.int .u64 x] w fun e w'=>e= .returned (.int .i64 (on7 (on6 (on5 (on4 (on3 (on2 (on1 x))))))))∧w=w':=by
 go_enter func157,ntmps157
 go_wp2
 go_ret
 exact⟨rfl,rfl⟩
theorem ones_any (f:Nat→Bool) (w:World) :
  Calls prog 157 #[.int .u64 (bitsN f 64:Nat)] w fun e w'=>e= .returned (.int .i64 (cntN f 64:Nat))∧w=w':=by
 have h:=ones_core (bitsN f 64) w (by have:=bitsN_lt f 64;omega);rw[on_all] at h;exact h
end
section
open Go.RowKit
structure PIn (w:World) (b:Nat) (x:List Bool) (A:Option Addr) (c:Nat):Prop where
 blk:Blk w b 152 #[.int .i64 x.length,.slice A (nw x) c]
 own:w.ownsRow 0 153 1 (.slice A (nw x) c) (nw x) (wds x)
def PF (b:Nat) (A:Option Addr):Nat→Prop:=fun k=>k=b∨∃a,A=some a∧k=a.block
section
variable {w w':World} {b c:Nat} {x:List Bool} {A:Option Addr}
theorem PIn.chg {G:Nat→Prop} (h:PIn w b x A c) (hc:Chg G w w') (hG:∀k,PF b A k→¬G k):PIn w' b x A c:=
 ⟨h.blk.chg hc (hG _ (.inl rfl)),own_chg h.own hc (fun g hg=>hG _ (.inr (by cases A with | none=>simp[Value.ownBlock] at hg | some a=>simp[Value.ownBlock] at hg;exact⟨a,rfl,hg.symm⟩)))⟩
theorem PIn.grew (h:PIn w b x A c) (hc:Grew w w'):PIn w' b x A c:=h.chg hc fun _ _=>id
theorem PIn.lt (h:PIn w b x A c):∀j,PF b A j→j< w.heap.size:=by
 rintro j (rfl | ⟨a,rfl,rfl⟩)
 ·exact h.blk.lt
 ·obtain⟨g,rfl,hg⟩:=own_some h.own
  exact hg
theorem PIn.word (h:PIn w b x A c) {k:Nat} (hk:k< nw x):∃g,A=some ⟨g,0,none⟩∧g< w.heap.size∧g≠b∧w.cell? ⟨g,k,none⟩=some (.int .u64 (wd x k))∧w.frozen? ⟨g,k,none⟩=false:=by
 obtain⟨g,rfl,hg⟩:=own_block h.own (by omega);obtain⟨cur, -,hgc,hnc,hcm,hcs,htake, -⟩:=own_row h.own;refine⟨g,rfl,hg,fun e=>own_blk_ne h.own h.blk (by decide) (by simp[Value.ownBlock,e]),?_,(show Blk w g _ cur from hgc).frozen _⟩;have:=h.own.cells (g:=g) rfl k _ (wds_at hk);rw[Addr.add_lit] at this;simpa using this
end
theorem pin_yes (b i:Nat) (x:List Bool) (A:Option Addr) (c:Nat) (w:World) (h:PIn w b x A c) (hi:i< x.length) :
  Calls prog 139 #[.pointer (some ⟨b,0,none⟩),.int .i64 i] w fun e w'=>e= .returned (.bool true)∧w=w':=by
 obtain⟨c0,f0,s0⟩:=h.blk.facts;have t1:decide ((0:Int)≤(i:Int))=true:=decide_eq_true (by omega);have t2:decide ((i:Int)< (x.length:Int))=true:=decide_eq_true (by omega);have t3:decide (i< x.length)=true:=decide_eq_true hi;clear h;go_enter func139,ntmps139
 go_wp2
 go_ret
 exact⟨rfl,rfl⟩
theorem pin_no (b:Nat) (i:Int) (x:List Bool) (A:Option Addr) (c:Nat) (w:World) (h:PIn w b x A c) (hi:i< 0∨x.length≤i) :
  Calls prog 139 #[.pointer (some ⟨b,0,none⟩),.int .i64 i] w fun e w'=>e= .returned (.bool false)∧w=w':=by
 obtain⟨c0,f0,s0⟩:=h.blk.facts;clear h;by_cases h1:i< 0
 ·have t1:decide ((0:Int)≤i)=false:=decide_eq_false (by omega)
  clear hi;go_enter func139,ntmps139
  go_wp2
  go_ret
  exact⟨rfl,rfl⟩
 ·have t1:decide ((0:Int)≤i)=true:=decide_eq_true (by omega)
  have t2:decide (i< (x.length:Int))=false:=decide_eq_false (by omega);clear hi;go_enter func139,ntmps139
  go_wp2
  go_ret
  exact⟨rfl,rfl⟩
theorem shr_nat (w s:Nat):(w:Int) / 2 ^ s=((w / 2 ^ s:Nat):Int):=by
 rw[Int.natCast_ediv,Int.natCast_pow];rfl
theorem has_eq {x:List Bool} {i:Nat}:(bits BinOp.and IntKind.u64 ((wd x (i / 64):Nat) / 2 ^ (i % 64):Int) 1==1)=x.getD i false:=by
 have h1:wd x (i / 64) / 2 ^ (i % 64)< 18446744073709551616:=Nat.lt_of_le_of_lt (Nat.div_le_self _ _) (wd_lt _ _);have h2:=bits_and_u64_nat (wd x (i / 64) / 2 ^ (i % 64)) 1 h1 (by decide);rw[shr_nat];have h3:bits BinOp.and IntKind.u64 ((wd x (i / 64) / 2 ^ (i % 64):Nat):Int) 1=((wd x (i / 64) / 2 ^ (i % 64) &&& 1:Nat):Int):=h2;rw[h3,Nat.and_one_is_mod,wd_has]
 cases x.getD i false<;>rfl
theorem bits_xor_u64_nat (a b:Nat) (ha:a< 18446744073709551616) (hb:b< 18446744073709551616):bits BinOp.xor IntKind.u64 (a:Int) (b:Int)=((a ^^^ b:Nat):Int):=by
 have hx:a ^^^ b< 2 ^ 64:=Nat.xor_lt_two_pow (by omega) (by omega)
 have h1:(BitVec.ofInt 64 (a:Int)).toNat=a:=by
  rw[BitVec.ofInt_natCast,BitVec.toNat_ofNat];exact Nat.mod_eq_of_lt (by omega)
 have h2:(BitVec.ofInt 64 (b:Int)).toNat=b:=by
  rw[BitVec.ofInt_natCast,BitVec.toNat_ofNat];exact Nat.mod_eq_of_lt (by omega)
 show IntKind.u64.wrap ((BitVec.ofInt 64 (a:Int) ^^^ BitVec.ofInt 64 (b:Int)).toNat:Int)=_;rw[BitVec.toNat_xor,h1,h2,IntKind.wrap_u64];omega
theorem pow_lt64 {s:Nat} (h:s< 64):2 ^ s< 18446744073709551616:=by
 have:2 ^ s< 2 ^ 64:=Nat.pow_lt_pow_right (by decide) h;simpa using this
theorem phas_yes (b i:Nat) (x:List Bool) (A:Option Addr) (c:Nat) (w:World) (h:PIn w b x A c) (hi:i< x.length) (hl:x.length≤65536) :
  Calls prog 140 #[.pointer (some ⟨b,0,none⟩),.int .i64 i] w fun e w'=>e= .returned (.bool (x.getD i false))∧w=w':=by
 obtain⟨c0,f0,s0⟩:=h.blk.facts;have hnw:=in_nw hi;have hnl:=nw_le x;obtain⟨g,rfl,hg,hgb,d0,fr⟩:=h.word hnw;have t1:(0:Int)≤((i / 64:Nat):Int):=by omega
 have H:=yH (yA h hi);clear h;go_enter func140,ntmps140
 go_wp2_with (go_at_call 139;refine(pin_yes b i x _ c _ H.out.1 H.out.2).mono ?_;rintro e w1 ⟨rfl,rfl⟩)
 go_ret
 exact⟨congrArg (fun v=>Ending.returned (.bool v)) has_eq,rfl⟩
theorem own_word {w:World} {base g c n s j:Nat} {e:TypeId} {xs:List Value} (h:w.ownsRow base e s (.slice (some ⟨g,0,none⟩) n c) n xs) (u:Value) :
  (w.setCell ⟨g,j,none⟩ u).ownsRow base e s (.slice (some ⟨g,0,none⟩) n c) n (xs.set j u):=by
 obtain⟨cur,hb,hgc,hnc,hcm,hcs,htake,hxl⟩:=own_row h;refine⟨by rw[List.length_set];exact h.1,.inr ⟨g,c,cur.setIfInBounds j u,rfl,hb,?_,hnc,hcm,by simpa using hcs,?_⟩⟩
 ·simp[World.setCell,Array.getElem?_modify,hgc]
 ·rw[←htake]
  simp[List.take_set]
def trn (x:List Bool) (i:Nat):List Bool:=x.set i (!x.getD i false)
theorem pturn_any (b i:Nat) (x:List Bool) (A:Option Addr) (c:Nat) (w:World) (h:PIn w b x A c) (hi:i< x.length) (hl:x.length≤65536) :
  Calls prog 97 #[.pointer (some ⟨b,0,none⟩),.int .i64 i] w fun e w'=>e= .returned (.tuple #[])∧PIn w' b (trn x i) A c∧Chg (PF b A) w w':=by
 obtain⟨c0,f0,s0⟩:=h.blk.facts;have hnw:=in_nw hi;have hnl:=nw_le x;obtain⟨g,rfl,hg,hgb,d0,fr⟩:=h.word hnw;have t1:(0:Int)≤((i / 64:Nat):Int):=by omega
 have H:=yH (yA h hi);clear h;go_enter func97,ntmps97
 go_wp2
 go_region
 refine bodyPost_end (results_none rfl _ _ _) rfl ?_
 have e1:bits BinOp.xor IntKind.u64 ((wd x (i / 64):Nat):Int) (IntKind.u64.wrap (2 ^ (i % 64)))=((wd x (i / 64) ^^^ 2 ^ (i % 64):Nat):Int):=by
  have hp:=pow_lt64 (s:=i % 64) (by omega);rw[show(2:Int) ^ (i % 64)=((2 ^ (i % 64):Nat):Int) from(Int.natCast_pow 2 (i % 64)).symm,wrapU hp,bits_xor_u64_nat _ _ (wd_lt _ _) hp]
 rw[e1];obtain⟨W,hW⟩:∃W,(w.setCell ⟨g,i / 64,none⟩ (.int .u64 ((wd x (i / 64) ^^^ 2 ^ (i % 64):Nat):Int))).drew=W:=⟨_,rfl⟩;rw[hW];have hc:Chg (fun j=>j=g) w W:=hW▸((Chg.refl (fun j=>j=g) w).setCell (p:=⟨g,i / 64,none⟩) (fun _=>rfl) _).drew;have ho:=own_word (j:=i / 64) H.out.1.own (.int .u64 ((wd x (i / 64) ^^^ 2 ^ (i % 64):Nat):Int))
 rw[wds_turn hi] at ho;have ho2:=own_chg (F:=NoF) ho ((Chg.refl NoF _).drew) (fun _ _=>id);rw[hW] at ho2;have hn:nw (trn x i)=nw x:=nw_set _ _ _;refine⟨rfl,⟨?_,by rw[hn];exact ho2⟩,hc.mono fun j _ e=> .inr ⟨_,rfl,e⟩⟩;rw[hn,show(trn x i).length=x.length from List.length_set];exact H.out.1.blk.chg hc (Ne.symm hgb)
end
section
open Go.RowKit
def grp (u:Nat):List Int:=if h:u< 128 then [(u:Int)] else((u % 128+128:Nat):Int) :: grp (u / 128)
termination_by u
decreasing_by omega
theorem grp_small {u:Nat} (h:u< 128):grp u=[(u:Int)]:=by rw[grp];simp[h]
theorem grp_more {u:Nat} (h:128≤u):grp u=((u % 128+128:Nat):Int) :: grp (u / 128):=by rw[grp];simp[show¬u< 128 by omega]
theorem grp_byte:∀ (n u:Nat),u≤n→∀x∈grp u,0≤x∧x≤255
 | 0,u,h,x,hx=>by rw[grp_small (by omega)] at hx;simp at hx;omega
 | n+1,u,h,x,hx=>by
  by_cases h1:u< 128
  ·rw[grp_small h1] at hx;simp at hx;omega
  ·rw[grp_more (by omega)] at hx
   simp only[List.mem_cons] at hx;rcases hx with rfl | hx
   ·omega
   ·exact grp_byte n (u / 128) (by omega) x hx
theorem grp_len:∀ (n u:Nat),u< 128 ^ n→0< n→(grp u).length≤n
 | 0,u,h,h0=>by omega
 | n+1,u,h,_=>by
  by_cases h1:u< 128
  ·rw[grp_small h1];simp
  ·rw[grp_more (by omega),List.length_cons]
   have hn:0< n:=by
    rcases Nat.eq_zero_or_pos n with rfl | h'
    ·simp at h;omega
    ·exact h'
   have:=grp_len n (u / 128) (by rw[Nat.pow_succ] at h;omega) hn;omega
theorem turned_any (n:Nat) (w:World) (h:n< 4611686018427387904) :
  Calls prog 164 #[.int .i64 n] w fun e w'=>e= .returned (.int .u64 ((2*n:Nat):Int))∧w=w':=by
 have hx:bits BinOp.xor IntKind.u64 ((n:Int)*2) ((n:Int) / 9223372036854775808)=((2*n:Nat):Int):=by
  have e0:(n:Int) / 9223372036854775808=((0:Nat):Int):=by omega
  have e1:(n:Int)*2=((2*n:Nat):Int):=by omega
  rw[e0,e1,bits_xor_u64_nat _ _ (by omega) (by omega),Nat.xor_zero]
 have HX:=yH hx;clear hx;go_enter func164,ntmps164
 go_wp2
 rw[HX.out];go_ret
 exact⟨rfl,rfl⟩
theorem or_more:∀k:Fin 256,bits BinOp.or IntKind.u8 ((k.1:Nat):Int) 128=((k.1 % 128+128:Nat):Int):=by decide+kernel
theorem or_byte (u:Nat):bits BinOp.or IntKind.u8 ((u:Int) % 256) 128=(u:Int) % 128+128:=by
 have:=or_more ⟨u % 256,by omega⟩;rw[show(u:Int) % 256=((u % 256:Nat):Int) from by omega];rw[this];simp only;omega
def AppOut (w w':World) (base:Nat) (v:Value) (n:Nat) (xs:List Value) (e:Ending):Prop:=∃v',e= .returned v'∧w'.ownsRow base 5 1 v' n xs∧Ap w w' v v'
theorem appended_any (base:Nat) (v:Value) (n:Nat) (xs:List Value) (u:Nat) (w:World) (hb:base≤w.heap.size) (ho:w.ownsRow base 5 1 v n xs) (hn:n≤1000000) (hu:u< 9223372036854775808) :
  Calls prog 163 #[v,.int .u64 u] w fun e w'=>AppOut w w' base v (n+(grp u).length) (xs++bv (grp u)) e:=by
 obtain⟨i0,hi0,hz0,hz1,hz2⟩:=info_parts u8Info;have HO:=yH ho;have hgl:=grp_len 10 u (by omega) (by omega);obtain⟨w0,rfl⟩:∃w0:World,w0=w:=⟨_,rfl⟩;clear ho;go_enter func163,ntmps163
 go_wp2
 go_loopw [0,1] (fun b i wr=>∃ (k:Nat) (v':Value) (pre:List Int),k≤u∧i= .int .u64 k∧v'=b∧grp u=pre++grp k∧wr.ownsRow base 5 1 v' (n+pre.length) (xs++bv pre)∧Ap w0 wr v v') (fun _ i _=>(intOf i).toNat)
 case atStart=>exact⟨u,v,[],Nat.le_refl _,rfl,rfl,rfl,by simpa [bv] using HO.out,Ap.refl _ _⟩
 case round=>
  obtain⟨k,v',pre,hk,rfl,rfl,hg,hown,hap⟩:=hrel;have hpl:pre.length≤10:=by have:=congrArg List.length hg;rw[List.length_append] at this;omega
  have H:=yH (yA3 hg hown hap);have hbs:base≤wr.heap.size:=by have:=hap.chg.size;omega
  have hor:=or_byte k;clear hg hown hap;by_cases hlt:128≤k
  ·have a1:(128:Int)≤(k:Int):=by omega
   have h1:n+pre.length+1≤maxLen:=by simp only[maxLen];omega
   have h2:(n+pre.length+1)*1≤140737488355328:=by omega
   have h3:base≤(wr.alloc (.cells #[.int .u8 ((k:Int) % 128+128)] 5)).heap.size:=by simp;omega
   have h4:∀j q,([Value.int .u8 ((k:Int) % 128+128)])[j]? =some q→(wr.alloc (.cells #[.int .u8 ((k:Int) % 128+128)] 5)).cell? ((⟨wr.heap.size,0,none⟩:Addr).add j)=some q:=by
    intro j q hq;have:=(Blk.new wr 5 #[.int .u8 ((k:Int) % 128+128)]).cell j;rw[Addr.add_lit,Nat.zero_add];rw[this];simpa using hq
   have K:=yH (yA4 h1 h2 h3 h4);clear h1 h2 h3 h4
   go_wp2_with (at_builtin;(refine wpList_append_own_at _ rfl _ _ _ rfl base 5 i0 _ 1 1 underlying49 hi0 hz0 hz1 hz2 rfl (by omega) v' (n+pre.length) (xs++bv pre) rfl (own_grew H.out.2.1 ((Chg.refl _ _).alloc _)) ⟨wr.heap.size,0,none⟩ 1 1 [.int .u8 ((k:Int) % 128+128)] rfl rfl K.out.2.2.2 (by simp[Value.oneCell']) K.out.1 K.out.2.1 K.out.2.2.1 ?_);intro v1 w1 hown1 hgrow hnil hat;have HR:=yH (yA3 hown1 hgrow hat);clear hown1 hgrow hnil hat)
   obtain⟨A1,c1,rfl, -⟩:=own_shape HR.out.1;go_wp2
   refine⟨⟨k / 128,_,pre++[(k:Int) % 128+128],by omega,by simp,rfl,?_,?_,H.out.2.2.push ((Chg.refl _ _).alloc _) HR.out.2.1 HR.out.2.2⟩,by simp[intOf];omega⟩
   ·rw[H.out.1,grp_more hlt];simp
   ·have:=HR.out.1
    simpa [bv,Nat.add_assoc] using this
  ·have a1:decide ((128:Int)≤(k:Int))=false:=decide_eq_false (by omega)
   have h1:n+pre.length+1≤maxLen:=by simp only[maxLen];omega
   have h2:(n+pre.length+1)*1≤140737488355328:=by omega
   have h3:base≤(wr.alloc (.cells #[.int .u8 k] 5)).heap.size:=by simp;omega
   have h4:∀j q,([Value.int .u8 k])[j]? =some q→(wr.alloc (.cells #[.int .u8 k] 5)).cell? ((⟨wr.heap.size,0,none⟩:Addr).add j)=some q:=by
    intro j q hq;have:=(Blk.new wr 5 #[.int .u8 k]).cell j;rw[Addr.add_lit,Nat.zero_add];rw[this];simpa using hq
   have K:=yH (yA4 h1 h2 h3 h4);have hk2:(k:Int) % 256=(k:Int):=by omega
   clear h1 h2 h3 h4
   go_wp2_with (at_builtin;(refine wpList_append_own_at _ rfl _ _ _ rfl base 5 i0 _ 1 1 underlying49 hi0 hz0 hz1 hz2 rfl (by omega) v' (n+pre.length) (xs++bv pre) rfl (own_grew H.out.2.1 ((Chg.refl _ _).alloc _)) ⟨wr.heap.size,0,none⟩ 1 1 [.int .u8 k] rfl rfl K.out.2.2.2 (by simp[Value.oneCell']) K.out.1 K.out.2.1 K.out.2.2.1 ?_);intro v1 w1 hown1 hgrow hnil hat;have HR:=yH (yA3 hown1 hgrow hat);clear hown1 hgrow hnil hat)
   go_ret
   refine⟨_,rfl,?_,H.out.2.2.push ((Chg.refl _ _).alloc _) HR.out.2.1 HR.out.2.2⟩;have:=HR.out.1;have hg:=H.out.1;rw[grp_small (show k< 128 by omega)] at hg;rw[hg];simpa [bv,Nat.add_assoc] using this
structure OutS (w0 w:World) (o:Nat) (bs:List Int) (A:Option Addr) (c:Nat):Prop where
 blk:Blk w o 169 #[.slice A bs.length c]
 own:w.ownsRow w0.heap.size 5 1 (.slice A bs.length c) bs.length (bv bs)
 grew:Grew w0 w
 new:w0.heap.size≤o
def OutIs (w0 w:World) (o:Nat) (bs:List Int):Prop:=∃A c,OutS w0 w o bs A c
theorem OutIs.on {w0 w w':World} {o:Nat} {bs:List Int} (h:OutIs w0 w o bs) (hg:Grew w w'):OutIs w0 w' o bs:=by
 obtain⟨A,c,h⟩:=h;exact⟨A,c,h.blk.grew hg,own_grew h.own hg,Grew.trans h.grew hg,h.new⟩
theorem OutIs.grew {w0 w:World} {o:Nat} {bs:List Int} (h:OutIs w0 w o bs):Grew w0 w:=by
 obtain⟨A,c,h⟩:=h;exact h.grew
theorem OutIs.made (w0 w:World) (h:Grew w0 w):OutIs w0 (w.alloc (.cells #[.slice none 0 0] 169)) w.heap.size []:=
 ⟨none,0,Blk.new _ _ _,World.ownsRow_nil _ _ _ _,h.alloc _,h.size⟩
theorem oint_any (w0:World) (o:Nat) (bs:List Int) (n:Nat) (w:World) (h:OutIs w0 w o bs) (hb:bs.length≤900000) (hn:n< 4611686018427387904) :
  Calls prog 136 #[.pointer (some ⟨o,0,none⟩),.int .i64 n] w fun e w'=>e= .returned (.pointer (some ⟨o,0,none⟩))∧OutIs w0 w' o (bs++grp (2*n)):=by
 obtain⟨A,c,h⟩:=h;obtain⟨c0,f0,s0⟩:=h.blk.facts;have c00:=c0 0;have f00:=f0 0;simp only[List.getElem?_toArray,List.getElem?_cons_zero,List.getElem?_cons_succ] at c00;have H:=yH h;clear c0 f0 h;go_enter func136,ntmps136
 go_wp2
 refine wp_region_x [10] (S:=fun w'=>w'.cell? ⟨o,0,none⟩=some (.slice A bs.length c)) (by kernel_rfl) c00 (fun hHeld=>?_);refine Todo.out (is:=[0,1,2,3,4,5]) ?_
 repeat
  refine tkX (v:=?_) rfl (Or.inl ⟨by rfl,?_⟩) hHeld ?_;rotate_left
  ·(intro w hSw;(try dsimp only at hSw);go_simp)<;>with_reducible rfl
  (try simp only[Act.put,lZ])
 refine Todo.fin ?_;refine rdX (i:=6) (by kernel_rfl) rfl fun K hK=>?_;go_simp;refine(turned_any n _ hn).mono ?_;rintro e w1 ⟨rfl,rfl⟩;refine hK.out _ _ (fun _=>hHeld) ?_;clear hK K;(try simp only[Act.put,lZ])
 refine rdX (i:=7) (by kernel_rfl) rfl fun K hK=>?_;go_simp;refine(appended_any w0.heap.size _ bs.length _ (2*n) _ ?_ (own_grew H.out.own ((Chg.refl _ _).drew)) (by omega) (by omega)).mono ?_
 ·simpa using H.out.grew.size
 rintro e w2 ⟨v',rfl,ho2,ha2⟩;obtain⟨A',c',rfl, -⟩:=own_shape ho2;have hne:∀j,(Value.slice A bs.length c).ownBlock=some j→j≠o:=fun j hj e=>own_blk_ne H.out.own H.out.blk (by decide) (e▸hj);have hB2:=(H.out.blk.drew).chg ha2.chg (fun e=>hne o e rfl);have HR:=yH (yA3 ho2 ha2 hB2);have hHel2:w2.cell? ⟨o,0,none⟩=some (.slice A bs.length c):=hB2.cell 0
 have f2:=hB2.frozen 0;have s2:=hB2.lt;clear ho2 ha2 hB2;refine hK.out _ _ (fun _=>hHel2) ?_;clear hK K;(try simp only[Act.put,lZ])
 refine rdX (i:=8) (by kernel_rfl) rfl fun K hK=>?_;go_simp;refine hK.out _ _ (fun _=>hHel2) ?_;clear hK K;(try simp only[Act.put,lZ])
 refine tkX1 (i:=9) (v:=?_) rfl (Or.inl ⟨by rfl,?_⟩) hHel2 ?_;rotate_left
 ·(intro w hSw;(try dsimp only at hSw);go_simp)<;>with_reducible rfl
 (try simp only[Act.put,lZ])
 refine rdX (i:=10) (by kernel_rfl) rfl fun K hK=>?_;go_simp;refine hK.out _ _ (fun h=>by cases h) ?_;clear hK K;(try simp only[Act.put,lZ])
 refine wpAnyX_done (by kernel_rfl) ?_ _;go_wp2
 go_ret
 refine⟨rfl,A',c',?_⟩;have e:(bs++grp (2*n)).length=bs.length+(grp (2*n)).length:=List.length_append;have hv:=HR.out.2.1.new (H.out.grew.drew) (fun j hj=>(H.out.own.lt j hj).1);refine⟨?_,?_,?_,H.out.new⟩
 ·rw[e];have:=HR.out.2.2.put 0 (.slice A' (bs.length+(grp (2*n)).length) c');simpa using this
 ·rw[e]
  have:=HR.out.1;refine own_chg (F:=fun j=>j=o) (by simpa [bv] using this) ((Chg.refl (fun j=>j=o) _).setCell (p:=⟨o,0,none⟩) (fun _=>rfl) _) (fun g hg hgo=>?_);exact own_blk_ne this HR.out.2.2 (by decide) (hgo▸hg)
 ·exact(HR.out.2.1.grow (H.out.grew.drew) (fun j hj=>(H.out.own.lt j hj).1)).setCell (p:=⟨o,0,none⟩) (fun hlt=>absurd hlt (by have:=H.out.new;simp only;omega)) _
end
section
open Go.RowKit
def nv (l:List Nat):List Value:=l.map fun n:Nat=> .int .i64 (n:Int)
theorem nv_len (l:List Nat):(nv l).length=l.length:=by simp[nv]
theorem nv_one (l:List Nat):∀u∈nv l,u.oneCell'=true:=by
 intro u hu;obtain⟨x, -,rfl⟩:=List.mem_map.1 hu;rfl
def grps (l:List Nat):List Int:=l.flatMap fun n=>grp (2*n)
theorem grps_len (l:List Nat) (h:∀n∈l,n< 4611686018427387904):(grps l).length≤10*l.length:=by
 induction l with
 | nil=>simp[grps]
 | cons n l ih=>
  have h1:=grp_len 10 (2*n) (by have:=h n (by simp);omega) (by omega);have h2:=ih fun k hk=>h k (by simp[hk]);simp only[grps,List.flatMap_cons,List.length_append,List.length_cons] at*;omega
theorem grps_snoc {l:List Nat} {k n:Nat} (h:l[k]? =some n):grps (l.take (k+1))=grps (l.take k)++grp (2*n):=by
 rw[List.take_add_one,h];simp[grps]
theorem oints_any (w0:World) (o:Nat) (bs:List Int) (l:List Nat) (A:Option Addr) (c:Nat) (w:World) (h:OutIs w0 w o bs) (hs:Sl w0 1 A l.length (nv l)) (hb:bs.length≤10000) (hl:l.length≤1000) (hn:∀n∈l,n< 4611686018427387904) :
  Calls prog 137 #[.pointer (some ⟨o,0,none⟩),.slice A l.length c] w fun e w'=>e= .returned (.pointer (some ⟨o,0,none⟩))∧OutIs w0 w' o (bs++grp (2*l.length)++grps l):=by
 have hg1:=grp_len 10 (2*l.length) (by omega) (by omega);have H:=yH (yA3 h hs hn);clear h hs hn;go_enter func137,ntmps137
 go_wp2_with (go_at_call 136;refine(oint_any w0 o bs l.length _ H.out.1 (by omega) (by omega)).mono ?_;rintro e w1 ⟨rfl,h1⟩;have H1:=yH h1;clear h1)
 go_loopw [6,13] (fun x i wr=>∃k:Nat,k≤l.length∧i= .int .i64 k∧OutIs w0 wr o (bs++grp (2*l.length)++grps (l.take k))) (fun _ i _=>l.length - (intOf i).toNat)
 case atStart=>exact⟨0,Nat.zero_le _,rfl,by simpa [grps] using H1.out⟩
 case round=>
  obtain⟨k,hk,rfl,hr⟩:=hrel;have HR:=yH hr;have hgr:=hr.grew;clear hr;by_cases hlt:k< l.length
  ·obtain⟨n,hnk⟩:∃n,l[k]? =some n:=⟨_,List.getElem?_eq_getElem hlt⟩
   have hn4:=H.out.2.2 n (List.mem_of_getElem? hnk);obtain⟨b,off,rfl,hblt,hx⟩:=(H.out.2.1.grew hgr).2 (by omega);have hc:=hx k (.int .i64 n) (by simp[nv,hnk]);have hgl:=grps_len (l.take k) (fun n hn=>H.out.2.2 n (List.mem_of_mem_take hn));rw[List.length_take,Nat.min_eq_left hk] at hgl;have HN:=yH hnk;clear hx hnk hgr
   go_wp2_with (go_at_call 136;(refine(oint_any w0 o _ n _ HR.out (by simp only[List.length_append];omega) hn4).mono ?_);rintro e w2 ⟨rfl,h2⟩;have H2:=yH h2;clear h2)
   exact⟨⟨k+1,by omega,by simp,by have:=H2.out;rw[grps_snoc HN.out,←List.append_assoc];exact this⟩,by simp[intOf];omega⟩
  ·obtain rfl:k=l.length:=by omega
   clear hgr;go_wp2
   go_ret
   exact⟨rfl,by have:=HR.out;rwa[List.take_length] at this⟩
theorem oall_any (w0:World) (o:Nat) (bs:List Int) (w:World) (h:OutIs w0 w o bs) (h0:0< bs.length) (hb:bs.length≤100000) :
  Calls prog 138 #[.pointer (some ⟨o,0,none⟩)] w fun e w'=>OwnOut w w' 5 1 bs.length (bv bs) (fun A c=> .slice A bs.length c) e:=by
 obtain⟨A,c,h⟩:=h;obtain⟨c0,f0,s0⟩:=h.blk.facts;have H:=yH h
 have hA:A≠none:=by
  rintro rfl;obtain⟨g,e, -⟩:=own_block h.own h0
  cases e
 clear h;go_enter func138,ntmps138
 go_wp2_with (go_at_call 99;refine(bclone_any A hA bs c _ (by omega) (Sl.of_own (own_base H.out.own (Nat.zero_le _)))).mono ?_;rintro e w2 ⟨A2,c2,rfl,ho2,hg2⟩;have HO:=yH (yA ho2 hg2);clear ho2 hg2)
 go_ret
 exact OwnOut.mk A2 c2 rfl HO.out.1 HO.out.2
end
section
open Go.RowKit
def encL (n:Int):Nat→List Int
 | 0=>[]
 | k+1=>encL n k++[n / 256 ^ k % 256]
theorem encL_len (n:Int):∀k,(encL n k).length=k
 | 0=>rfl
 | k+1=>by simp[encL,encL_len n k]
theorem encL_byte (n:Int):∀k,∀q∈encL n k,0≤q∧q≤255
 | 0,q,h=>by simp[encL] at h
 | k+1,q,h=>by
  simp only[encL,List.mem_append,List.mem_singleton] at h;rcases h with h | rfl
  ·exact encL_byte n k q h
  ·omega
def decL:List Int→Int
 | []=>0
 | b :: t=>b+256*decL t
theorem decL_snoc:∀ (l:List Int) (b:Int),decL (l++[b])=decL l+b*256 ^ l.length
 | [],b=>by simp[decL]
 | a :: t,b=>by
  simp only[List.cons_append,decL,decL_snoc t b,List.length_cons,Int.pow_succ];rw[Int.mul_add,Int.add_assoc];congr 2
  rw[Int.mul_left_comm,Int.mul_comm 256]
theorem decL_bnd:∀ (l:List Int),(∀q∈l,0≤q∧q≤255)→0≤decL l∧decL l< 256 ^ l.length
 | [],_=>by simp[decL]
 | a :: t,h=>by
  have h1:=decL_bnd t fun q hq=>h q (List.mem_cons_of_mem _ hq);have h2:=h a List.mem_cons_self;simp only[decL,List.length_cons,Int.pow_succ];omega
theorem emod_two (n a:Int) (ha:0< a):n % (a*256)=n % a+n / a % 256*a:=by
 have h1:=Int.emod_add_mul_ediv n a;have h2:=Int.emod_add_mul_ediv (n / a) 256;have h3:=Int.emod_nonneg n (show a≠0 by omega);have h4:=Int.emod_lt_of_pos n ha;obtain⟨q,hq⟩:∃q,n / a=q:=⟨_,rfl⟩;obtain⟨r,hr⟩:∃r,n % a=r:=⟨_,rfl⟩;rw[hq,hr] at h1;rw[hr] at h3 h4;rw[hq] at h2;rw[hr,hq];obtain⟨s,hs⟩:∃s,q % 256=s:=⟨_,rfl⟩
 obtain⟨q',hq'⟩:∃q',q / 256=q':=⟨_,rfl⟩;rw[hs,hq'] at h2;rw[hs];have hs0:0≤s∧s≤255:=by omega
 have hn:n=(r+s*a)+(a*256)*q':=by
  rw[←h1,←h2,Int.mul_add,Int.mul_comm s a,Int.mul_assoc a 256 q'];omega
 rw[hn,Int.add_mul_emod_self_left];have h5:0≤s*a:=Int.mul_nonneg hs0.1 (by omega);have h6:s*a≤255*a:=Int.mul_le_mul_of_nonneg_right hs0.2 (by omega);exact Int.emod_eq_of_lt (by omega) (by omega)
theorem decL_encL (n:Int):∀k,decL (encL n k)=n % 256 ^ k
 | 0=>by simp[encL,decL,Int.emod_one]
 | k+1=>by
  rw[encL,decL_snoc,decL_encL n k,encL_len,Int.pow_succ,emod_two n _ (Int.pow_pos (by omega))]
def getL (l:List Int):Int:=wrap64 (decL l)
theorem getL_enc8 {n:Int} (h: -9223372036854775808≤n∧n≤9223372036854775807):getL (encL n 8)=n:=by
 unfold getL;rw[decL_encL];have e:(256:Int) ^ 8=18446744073709551616:=by decide
 rw[e];unfold wrap64;omega
theorem getL_enc2 {n:Nat} (h:n< 65536):getL (encL n 2)=n:=by
 unfold getL;rw[decL_encL];have e:(256:Int) ^ 2=65536:=by decide
 rw[e];unfold wrap64;omega
theorem getL_2 {l:List Int} (hb:∀q∈l,0≤q∧q≤255) (hl:l.length=2):0≤getL l∧getL l< 65536:=by
 have h:=decL_bnd l hb;rw[hl] at h;have e:(256:Int) ^ 2=65536:=by decide
 rw[e] at h;unfold getL
 have:wrap64 (decL l)=decL l:=by
  unfold wrap64;omega
 rw[this];exact h
theorem getL_bnd (l:List Int): -9223372036854775808≤getL l∧getL l≤9223372036854775807:=by
 unfold getL wrap64;omega
theorem pow256 (i:Nat):(2:Int) ^ (8*i)=256 ^ i:=by
 rw[Int.pow_mul];rfl
def PutB (w w':World) (base:Nat) (v:Value) (n:Nat) (xs:List Value) (e:Ending):Prop:=∃v',e= .returned v'∧w'.ownsRow base 5 1 v' n xs∧Ap w w' v v'
theorem bput_any (base:Nat) (v:Value) (m:Nat) (xs:List Value) (n:Int) (k:Nat) (w:World) (hb:base≤w.heap.size) (ho:w.ownsRow base 5 1 v m xs) (hm:m≤100000) (hk:k≤8) :
  Calls prog 83 #[v,.int .i64 n,.int .i64 k] w fun e w'=>PutB w w' base v (m+k) (xs++bv (encL n k)) e:=by
 have HO:=yH ho;obtain⟨w0,rfl⟩:∃w0:World,w0=w:=⟨_,rfl⟩;clear ho;go_enter func83,ntmps83
 go_wp2
 go_loopg [0,9] k (fun q b i wr=>∃ (j:Nat),q=k - j∧j≤k∧i= .int .i64 j∧wr.ownsRow base 5 1 b (m+j) (xs++bv (encL n j))∧Ap w0 wr v b)
 case atStart=>exact⟨0,rfl,Nat.zero_le _,rfl,by simpa [bv,encL] using HO.out,Ap.refl _ _⟩
 case round=>
  obtain⟨j,rfl,hj,rfl,hown,hap⟩:=hrel;have HJ:=yH (yA hown hap);have hbr:base≤wr.heap.size:=Nat.le_trans hb hap.chg.size;clear hown hap;by_cases hlt:j< k
  ·go_wp2_with (at_builtin;refine app_byte rfl _ _ rfl base _ (m+j) (xs++bv (encL n j)) rfl HJ.out.1 (n / 2 ^ (8*j) % 256) rfl (by omega) hbr ?_;intro v1 w3 hown1 hap1;have HO1:=yH (yA hown1 hap1);clear hown1 hap1)
   go_roundg (k - (j+1))
   case measure=>omega
   case rel=>
    refine⟨j+1,rfl,by omega,by simp,?_,HJ.out.2.trans HO1.out.2⟩;have:=HO1.out.1;rw[pow256] at this;rw[encL];simpa [bv,Nat.add_assoc] using this
  ·obtain rfl:j=k:=by omega
   go_wp2
   go_ret
   exact⟨_,rfl,HJ.out.1,HJ.out.2⟩
end
section
open Go.RowKit
def IterEnd (J Jx:World→Prop) (e:Ending) (w:World):Prop:=(∃v,e= .returned v)∧(J w∨Jx w)
def Rounded (J Jx:World→Prop) (e:Ending) (w:World):Prop:=(e= .returned (.bool true)∧J w)∨(e= .returned (.bool false)∧Jx w)
end
section
open Go.RowKit
theorem backw_any (A:Option Addr) (n c:Nat) (w W:World) (hW:w.alloc (.cells #[.slice A n c] 49)=W) :
  Calls prog 149 #[.slice A n c] w fun e w'=>e= .returned (.func (.func 172) #[] #[.pointer (some ⟨w.heap.size,0,none⟩)])∧W=w':=by
 subst hW;go_enter func149,ntmps149
 go_wp2
 go_ret
 exact⟨rfl,rfl⟩
section
attribute [local go_sem] Oper.semAt_some
theorem backw_iter (bb y g off n c:Nat) (bs:List Int) (J:Nat→World→Prop) (w:World) (hn:bs.length=n) (hn2:n≤100000)
  (hin:∀i W,J i W→Blk W bb 49 #[.slice (some ⟨g,off,none⟩) n c]∧∀j u,(bv bs)[j]? =some u→W.cell? ⟨g,off+j,none⟩=some u)
  (hyld:∀i j b W,J i W→i+j+1=n→bs[j]? =some b→YieldAt Fence.wide 0 prog y #[.int .i64 j,.int .u8 b] W fun e w'=>e= .returned (.bool true)∧J (i+1) w')
  (h0:J 0 w) :
  Calls prog 172 #[.func (.yield y) #[] #[],.pointer (some ⟨bb,0,none⟩)] w fun e w'=>(∃v,e= .returned v)∧J n w':=by
 have Hin:=yH hin;have Hyld:=yH hyld;have H0:=yH h0;obtain⟨c0,f0,s0⟩:=(hin 0 w h0).1.facts;clear hin hyld h0
 (refine(callsIn_wide (n:=1)).1 (callsIn_of_wp func172 rfl trivial ?_ rfl);simp only[ntmps172,List.size_toArray,List.length_cons,List.length_nil,Nat.reduceAdd,Nat.reduceSub,Array.replicate_succ,Array.replicate_zero,List.push_toArray,List.append_toArray,List.nil_append,List.cons_append])
 gi_wp2
 clear c0 f0 s0;gi_loopg [3] n (fun q v wr=>∃i:Nat,q=n - i∧i≤n∧v= .int .i64 ((n:Int) - 1 - i)∧J i wr)
 case atStart=>exact⟨0,rfl,Nat.zero_le _,by simp,H0.out⟩
 case round=>
  obtain⟨i,rfl,hi,rfl,hJ⟩:=hrel;have HJ:=yH hJ;obtain⟨c0,f0,s0⟩:=(Hin.out i wr hJ).1.facts;by_cases hlt:i< n
  ·obtain⟨j,hj⟩:∃j,i+j+1=n:=⟨n - 1 - i,by omega⟩
   have hv:(n:Int) - 1 - (i:Int)=(j:Int):=by omega
   obtain⟨b,hb⟩:∃b,bs[j]? =some b:=⟨_,List.getElem?_eq_getElem (by omega)⟩;have hcj:wr.cell? ⟨g,off+j,none⟩=some (.int .u8 b):=(Hin.out i wr hJ).2 j _ (by simp[bv,hb]);obtain⟨fn,tmps,assign,body,hy,hR⟩:=Hyld.out i j b wr HJ.out hj hb;have HR:=yH (yA hR hj);rw[hv];have hjn:j< n:=by omega
   clear hJ hR hj hv hb;gi_wp2_with (refine HR.out.1.mono ?_;rintro e w4 ⟨rfl,hJ2⟩;have HJ2:=yH hJ2;clear hJ2 c0 f0 s0 hcj)
   gi_roundg (n - (i+1))
   case measure=>omega
   case rel=>
    have hij:=HR.out.2;exact⟨i+1,rfl,by omega,by congr 1;omega,HJ2.out⟩
  ·obtain rfl:i=n:=by omega
   have hv:(i:Int) - 1 - (i:Int)= -1:=by omega
   rw[hv];clear hJ hv;gi_wp2
   refine bodyPost_end (results_none rfl _ _ _) rfl ⟨⟨_,rfl⟩,HJ.out⟩
end
theorem bits_or_u64_byte (a c:Nat) (ha:a< 72057594037927936) (hc:c< 256):bits BinOp.or IntKind.u64 ((a*256:Nat):Int) ((c:Nat):Int)=((a*256+c:Nat):Int):=by
 rw[bits_or_u64_nat _ _ (by omega) (by omega)];have:=Nat.two_pow_add_eq_or_of_lt (i:=8) (b:=c) (by omega) a;rw[show 2 ^ 8*a=a*256 from by omega] at this;rw[this]
structure GetJ (w W:World) (g off n c b3 bb L D:Nat) (bs:List Int) (i:Nat) (r:Loop) (st:LoopState) (pe:Option Code):Prop where
 gr:Grew w W
 f3:Blk W b3 153 #[.int .u64 (decL (bs.drop (n - i)))]
 fb:Blk W bb 49 #[.slice (some ⟨g,off,none⟩) n c]
 sl:Sl W 1 (some ⟨g,off,none⟩) bs.length (bv bs)
 rc:Rec W L (Loop.at_ r st pe)
 df:Dfr W D
 le:w.heap.size=b3∧g< b3∧b3< bb∧bb< L∧bb< D∧L≠D
theorem GetJ.kept {w W W':World} {g off n c b3 bb L D:Nat} {bs:List Int} {i:Nat} {r:Loop} {st st':LoopState} {pe pe':Option Code} (h:GetJ w W g off n c b3 bb L D bs i r st pe) (hk:Kept L W W') (hR:Rec W' L (Loop.at_ r st' pe')):GetJ w W' g off n c b3 bb L D bs i r st' pe':=by
 obtain⟨e1,e2,e3,e4,e5,e6⟩:=h.le;exact⟨h.gr.kept hk (by omega),h.f3.kept hk,h.fb.kept hk,h.sl.kept hk,hR,h.df.kept hk (by omega),h.le⟩
theorem GetJ.next {w W W':World} {g off n c b3 bb L D j:Nat} {bs:List Int} {i:Nat} {r:Loop} {st:LoopState} {pe:Option Code} {b v:Int} (h:GetJ w W g off n c b3 bb L D bs i r st pe) (hj:i+j+1=n) (hb:bs[j]? =some b) (hv:v=b+256*decL (bs.drop (n - i))) (hW:W.setCell ⟨b3,0,none⟩ (.int .u64 v)=W'):GetJ w W' g off n c b3 bb L D bs (i+1) r st pe:=by
 obtain⟨e1,e2,e3,e4,e5,e6⟩:=h.le;have hc:Chg (fun q=>q=b3) W W':=hW▸(Chg.refl (fun q=>q=b3) W).setCell (p:=⟨b3,0,none⟩) (fun _=>rfl) _;refine⟨Chg.trans h.gr hc fun q _ e=>by omega,?_,h.fb.chg hc (by omega),h.sl.chg hc (fun a ha=>by injection ha with ha;subst ha;simp only;omega),h.rc.chg hc (by omega),h.df.chg hc (by omega),h.le⟩;subst hW
 have h1:=h.f3.put 0 (.int .u64 v)
 have hd:bs.drop (n - (i+1))=b :: bs.drop (n - i):=by
  have hjl:=(List.getElem?_eq_some_iff.1 hb);obtain⟨hl,he⟩:=hjl;rw[show n - (i+1)=j by omega,show n - i=j+1 by omega,List.drop_eq_getElem_cons hl,he]
 rw[hd,decL,←hv];simpa using h1
attribute [local go_sem] Oper.semAt_some in
theorem bget_any (g off n c:Nat) (bs:List Int) (w:World) (hn:bs.length=n) (hn1:1≤n) (hn2:n≤8) (hb:∀q∈bs,0≤q∧q≤255) (hs:Sl w 1 (some ⟨g,off,none⟩) bs.length (bv bs)) :
  Calls prog 116 #[.slice (some ⟨g,off,none⟩) n c] w fun e w'=>e= .returned (.int .i64 (getL bs))∧Grew w w':=by
 obtain⟨b3,hb3⟩:∃b,w.heap.size=b:=⟨_,rfl⟩;obtain⟨W1,hW1⟩:∃W,w.alloc (.cells #[.int .u64 0] 153)=W:=⟨_,rfl⟩;obtain⟨bb,hbb⟩:∃b,W1.heap.size=b:=⟨_,rfl⟩;obtain⟨W2,hW2⟩:∃W,W1.alloc (.cells #[.slice (some ⟨g,off,none⟩) n c] 49)=W:=⟨_,rfl⟩;have hg1:Grew w W1:=hW1▸(Chg.refl _ _).alloc _;have hg2:Grew W1 W2:=hW2▸(Chg.refl _ _).alloc _
 have k1:Blk W2 b3 153 #[.int .u64 0]:=Blk.grew (by subst hW1 hb3;exact Blk.new _ _ _) hg2;have k2:Blk W2 bb 49 #[.slice (some ⟨g,off,none⟩) n c]:=by subst hW2 hbb;exact Blk.new _ _ _
 have k3:b3< bb:=by subst hW1 hb3 hbb;simp
 have hgl:g< b3:=by
  obtain⟨b,o,e,h1, -⟩:=hs.2 (by omega)
  cases e
  omega
 have hbk:=backw_any (some ⟨g,off,none⟩) n c W1 W2 hW2;rw[hbb] at hbk;have H:=yH (yA5 (Grew.trans hg1 hg2) k1 k2 k3 (yA5 (hs.grew (Grew.trans hg1 hg2)) hb hb3 hbk hW1));clear hg1 hg2 k1 k2 k3 hs hb hb3 hbk hW1 hbb hW2
 (refine calls_of_marks func116 rfl ?_;simp only[ntmps116,List.size_toArray,List.length_cons,List.length_nil,Nat.reduceAdd,Nat.reduceSub,Array.replicate_succ,Array.replicate_zero,List.push_toArray,List.append_toArray,List.nil_append,List.cons_append])
 go_wp2_with fail
 rw[(yP8 H.out),(yP6 H.out).1];refine(yP6 H.out).2.1.mono ?_;rintro e w8 ⟨rfl,rfl⟩;go_wp2_with fail
 refine wp_range (gf:=172) (lb:= #[.pointer (some ⟨bb,0,none⟩)]) rfl (enters_of func172 (by kernel_rfl) rfl) ?_;intro r Wr D L hr hg1 hDl hLl hD hR;have hDL:=hR.ne_dfr hD;have hz2:=H.out.2.2.1.lt
 have hJ0:GetJ w Wr g off n c b3 bb L D bs 0 r .ready none:=by
  refine⟨Grew.trans H.out.1 hg1,?_,H.out.2.2.1.grew hg1,(yP4 H.out).1.grew hg1,hR,hD,(yP6 H.out).1,hgl,H.out.2.2.2.1,by omega,by omega,hDL⟩;rw[show n - 0=bs.length from hn.symm,List.drop_length];exact H.out.2.1.grew hg1
 have HJ0:=yH hJ0;have HR1:=yH hr;clear hr hg1 hJ0 hD hR hDl hLl
 refine(backw_iter bb L g off n c bs (fun i W=>GetJ w W g off n c b3 bb L D bs i r .ready none) Wr hn (by omega) (fun i W hJ=>⟨hJ.fb,fun j u hu=>by
   obtain⟨b,o,e, -,hx⟩:=hJ.sl.2 (by omega)
   cases e
   exact hx j u hu⟩) (fun i j b W hJ hij hb=>?yld) HJ0.out).mono ?post
 case yld=>
  have HJ:=yH (yA3 hJ hij hb);clear hJ hij hb;obtain⟨hr1,hr2,hr3,hr4⟩:=HR1.out;refine yield_wide HJ.out.1.rc (by rw[hr2];rfl) ?_;rw[hr1,hr2,hr3,hr4];clear hr1 hr2 hr3 hr4;intro K hK;have HKK:=yH hK;clear hK;gi_wp2
  refine HKK.out _ _ HJ.out.1.rc fun W5 Q hk3 hR2 hQ=>?_;refine Code.wpIn_mono hQ ?_;have HJ5:=yH (HJ.out.1.kept hk3 hR2);clear hk3 hR2 hQ Q
  obtain⟨a,ha,ha2⟩:∃a:Nat,decL (bs.drop (n - i))=(a:Int)∧a< 72057594037927936:=by
   have h1:=decL_bnd (bs.drop (n - i)) fun q hq=>(yP4 H.out).2.1 q (List.mem_of_mem_drop hq)
   have h2:(256:Int) ^ (bs.drop (n - i)).length≤256 ^ 7:=by
    have:(bs.drop (n - i)).length≤7:=by rw[List.length_drop];have:=HJ.out.2.1;omega
    exact_mod_cast Nat.pow_le_pow_right (by omega) this
   have e:(256:Int) ^ 7=72057594037927936:=by decide
   exact⟨(decL (bs.drop (n - i))).toNat,by omega,by omega⟩
  obtain⟨q,rfl,hq⟩:∃q:Nat,b=(q:Int)∧q< 256:=by
   have:=(yP4 H.out).2.1 b (List.mem_of_getElem? HJ.out.2.2);exact⟨b.toNat,by omega,by omega⟩
  obtain⟨d1,f1,s1⟩:=HJ5.out.f3.facts;rw[ha] at d1;have Ha:=yH ha;have hbo:=bits_or_u64_byte a q ha2 hq;have hbo1:bits BinOp.or IntKind.u64 ((a:Int)*256) (q:Int)=(a:Int)*256+q:=by simpa using hbo
  clear ha hbo;gi_wp2
  obtain⟨W8,hW8⟩:∃W8,W5.setCell ⟨b3,0,none⟩ (.int .u64 ((a:Int)*256+(q:Int)))=W8:=⟨_,rfl⟩;have HJ8:=HJ5.out.next HJ.out.2.1 HJ.out.2.2 (by rw[Ha.out];omega) hW8;rw[hW8];exact⟨HJ8.rc,fun w' hk' hR'=>⟨rfl,HJ8.kept hk' hR'⟩⟩
 case post=>
  rintro e w9 ⟨hv,hJ⟩;refine⟨hv,.inl ⟨hJ.rc,fun w10 hk10=>?_⟩⟩;have hle:=hJ.le;have HJ10:=yH (yA (hJ.gr.kept hk10 (by omega)) (hJ.df.kept hk10 (by omega)));have hb3:=hJ.f3.kept hk10;rw[Nat.sub_self,List.drop_zero] at hb3;obtain⟨d1,f1,s1⟩:=hb3.facts;clear hJ hk10 hb3;go_wp2_with fail
  refine postM_ret1 (v:= .int .i64 (getL bs)) (D:=D) HJ10.out.2 rfl fun w11 hk11=>⟨by simp[results,results116,go_sem,getL],rfl,HJ10.out.1.kept hk11 (by omega)⟩
end
section
open Go.RowKit
theorem Sl.sub {w:World} {g off:Nat} {bs:List Int} (h:Sl w 1 (some ⟨g,off,none⟩) bs.length (bv bs)) {i m:Nat} (him:i+m≤bs.length) (ys:List Int) (hy:ys=(bs.drop i).take m):Sl w 1 (some ⟨g,off+i,none⟩) ys.length (bv ys):=by
 subst hy;refine⟨by rw[bv_len,Nat.mul_one],fun hn=>?_⟩;have hl:((bs.drop i).take m).length=m:=by simp;omega
 rw[hl] at hn;obtain⟨b,o,e,hb,hx⟩:=h.2 (by omega)
 cases e
 refine⟨g,off+i,rfl,hb,fun j u hu=>?_⟩;have hj:j< m:=by have:=(List.getElem?_eq_some_iff.1 hu).1;rw[bv_len,hl] at this;exact this
 rw[Nat.add_assoc];refine hx (i+j) u ?_;rw[←hu];simp only[bv,List.map_take,List.map_drop,List.getElem?_take,List.getElem?_drop];rw[if_pos hj]
end
section
open Go.RowKit
def crcT:List Nat:=[0x00000000,0x1db71064,0x3b6e20c8,0x26d930ac,0x76dc4190,0x6b6b51f4,0x4db26158,0x5005713c,0xedb88320,0xf00f9344,0xd6d6a3e8,0xcb61b38c,0x9b64c2b0,0x86d3d2d4,0xa00ae278,0xbdbdf21c]
def crcV:Array Value:= #[.int .u32 0,.int .u32 498536548,.int .u32 997073096,.int .u32 651767980,.int .u32 1994146192,.int .u32 1802195444,.int .u32 1303535960,.int .u32 1342533948,.int .u32 3988292384,.int .u32 4027552580,.int .u32 3604390888,.int .u32 3412177804,.int .u32 2607071920,.int .u32 2262029012,.int .u32 2685067896,.int .u32 3183342108]
theorem crcV_at:∀k:Nat,k< 16→crcV[k]? =some (.int .u32 ((crcT.getD k 0:Nat):Int)):=by
 intro k hk
 match k,hk with
 | 0,_=>rfl
 | 1,_=>rfl
 | 2,_=>rfl
 | 3,_=>rfl
 | 4,_=>rfl
 | 5,_=>rfl
 | 6,_=>rfl
 | 7,_=>rfl
 | 8,_=>rfl
 | 9,_=>rfl
 | 10,_=>rfl
 | 11,_=>rfl
 | 12,_=>rfl
 | 13,_=>rfl
 | 14,_=>rfl
 | 15,_=>rfl
 | k+16,h=>omega
def crcH (x:Nat):Nat:=x / 16 ^^^ crcT.getD (x % 16) 0
def crcS (x c:Nat):Nat:=crcH (crcH (x ^^^ c))
def crcR (x:Nat) (bs:List Int):Nat:=bs.foldl (fun x b=>crcS x b.toNat) x
def crc (bs:List Int):Nat:=4294967295 ^^^ crcR 4294967295 bs
theorem crcT_lt (k:Nat):crcT.getD k 0< 4294967296:=by
 by_cases h:k< 16
 ·have:∀k:Fin 16,crcT.getD k.1 0< 4294967296:=by decide
  exact this ⟨k,h⟩
 ·rw[List.getD_eq_getElem?_getD,List.getElem?_eq_none (by simp[crcT];omega)];decide
theorem xor_lt32 {a b:Nat} (ha:a< 4294967296) (hb:b< 4294967296):a ^^^ b< 4294967296:=Nat.xor_lt_two_pow (n:=32) ha hb
theorem crcH_lt {x:Nat} (h:x< 4294967296):crcH x< 4294967296:=xor_lt32 (Nat.lt_of_le_of_lt (Nat.div_le_self _ _) h) (crcT_lt _)
theorem crcS_lt {x c:Nat} (h:x< 4294967296) (hc:c< 4294967296):crcS x c< 4294967296:=crcH_lt (crcH_lt (xor_lt32 h hc))
theorem crcR_lt:∀ {bs:List Int} {x:Nat},(∀b∈bs,0≤b∧b≤255)→x< 4294967296→crcR x bs< 4294967296
 | [],_,_,h=>h
 | b :: bs,x,hb,h=>crcR_lt (bs:=bs) (fun c hc=>hb c (by simp[hc])) (crcS_lt h (by have:=hb b (by simp);omega))
theorem crcR_take {bs:List Int} {k:Nat} {b:Int} (h:bs[k]? =some b) (x:Nat):crcR x (bs.take (k+1))=crcS (crcR x (bs.take k)) b.toNat:=by
 unfold crcR;rw[List.take_add_one,h,List.foldl_append];rfl
theorem wrap_u32 (x:Nat) (h:x< 4294967296):IntKind.u32.wrap (x:Int)=(x:Int):=by
 simp[IntKind.wrap,IntKind.bits,IntKind.signed]
 omega
theorem bits_xor_u32 (a b:Nat) (ha:a< 4294967296) (hb:b< 4294967296):bits BinOp.xor IntKind.u32 (a:Int) (b:Int)=((a ^^^ b:Nat):Int):=by
 have hx:a ^^^ b< 2 ^ 32:=Nat.xor_lt_two_pow (by omega) (by omega)
 have h1:(BitVec.ofInt 32 (a:Int)).toNat=a:=by
  rw[BitVec.ofInt_natCast,BitVec.toNat_ofNat];exact Nat.mod_eq_of_lt (by omega)
 have h2:(BitVec.ofInt 32 (b:Int)).toNat=b:=by
  rw[BitVec.ofInt_natCast,BitVec.toNat_ofNat];exact Nat.mod_eq_of_lt (by omega)
 show IntKind.u32.wrap ((BitVec.ofInt 32 (a:Int) ^^^ BitVec.ofInt 32 (b:Int)).toNat:Int)=_;rw[BitVec.toNat_xor,h1,h2,wrap_u32 _ (by omega)]
theorem bits_and15_u32 (a:Nat) (ha:a< 4294967296):bits BinOp.and IntKind.u32 (a:Int) 15=((a % 16:Nat):Int):=by
 have h1:(BitVec.ofInt 32 (a:Int)).toNat=a:=by
  rw[BitVec.ofInt_natCast,BitVec.toNat_ofNat];exact Nat.mod_eq_of_lt (by omega)
 show IntKind.u32.wrap ((BitVec.ofInt 32 (a:Int) &&& BitVec.ofInt 32 15).toNat:Int)=_;rw[BitVec.toNat_and,h1,show(BitVec.ofInt 32 15).toNat=2 ^ 4 - 1 from rfl,Nat.and_two_pow_sub_one_eq_mod,wrap_u32 _ (by omega)]
theorem halves_any (w:World):Calls prog 175 #[] w fun e w'=>e= .returned (.agg crcV)∧Grew w w':=by
 go_enter func175,ntmps175
 go_wp2
 refine bodyPost_ret (v:= .agg crcV) (by simp[results,results175,go_sem,crcV]) rfl ?_;exact⟨rfl,by(repeat (first | (with_reducible exact(Chg.refl _ _)) | (with_reducible refine Chg.alloc ?_ _) | (with_reducible refine Chg.drew ?_) | (with_reducible refine Chg.drewN ?_ _) | ((with_reducible refine Chg.setCell ?_ ?hp _);(case hp=>(intro h;exfalso;simp at h;try omega)))))⟩
end
section
open Go.RowKit
def One (w:World) (A:Option Addr) (v:Value):Prop:=∃g off,A=some ⟨g,off,none⟩∧g< w.heap.size∧w.cell? ⟨g,off,none⟩=some v
theorem crcH_parts (y:Nat) (hy:y< 4294967296):∃i q v z:Nat,bits BinOp.and IntKind.u32 (y:Int) 15=(i:Int)∧i< 16∧(y:Int) / 16=(q:Int)∧crcT.getD i 0=v∧bits BinOp.xor IntKind.u32 (q:Int) (v:Int)=(z:Int)∧z< 4294967296∧crcH y=z:=
 ⟨y % 16,y / 16,crcT.getD (y % 16) 0,crcH y,bits_and15_u32 y hy,by omega,by omega,rfl,bits_xor_u32 _ _ (Nat.lt_of_le_of_lt (Nat.div_le_self _ _) hy) (crcT_lt _),crcH_lt hy,rfl⟩
theorem sum_any (bs:List Int) (A B:Option Addr) (c d:Nat) (w:World) (h1:One w A (.slice B bs.length d)) (hs:Sl w 1 B bs.length (bv bs)) (hb:∀b∈bs,0≤b∧b≤255) (hl:bs.length≤1000000) :
  Calls prog 162 #[.slice A 1 c] w fun e w'=>e= .returned (.int .u32 (crc bs))∧Grew w w':=by
 obtain⟨g,off,rfl,hg,hcell⟩:=h1;have H:=yH (yA hs hb);clear hs hb;go_enter func162,ntmps162
 go_wp2_with (first
  | (rw[HW2.out])
  | (go_at_call 175;refine(halves_any _).mono ?_;rintro e w1 ⟨rfl,hg1⟩;obtain⟨W2,hW2⟩:∃W2,w1.alloc (.cells crcV 209)=W2:=⟨_,rfl⟩;have HT:=yH (show Blk W2 w1.heap.size 209 crcV from hW2▸Blk.new _ _ _);have HG2:=yH (show Grew w W2 from hW2▸hg1.alloc _);unfold crcV at hW2;have HW2:=yH hW2;clear hg1 hW2;unfold crcV))
 obtain⟨t3,ht3⟩:∃t3,w1.heap.size=t3:=⟨_,rfl⟩;rw[ht3] at HT ⊢;have hcell2:=(HG2.out.cell (p:=⟨g,off,none⟩) hg id).trans hcell;have hg2:=Nat.lt_of_lt_of_le hg HG2.out.size;clear ht3 hcell hg
 go_loopw [4,6,8,12] (fun x _ _ i wr=>W2=wr∧((i= .int .i64 0∧x= .int .u32 4294967295)∨(i= .int .i64 1∧x= .int .u32 (crcR 4294967295 bs)))) (fun _ _ _ i _=>1 - (intOf i).toNat)
 case atStart=>exact⟨rfl,.inl ⟨rfl,rfl⟩⟩
 case round=>
  obtain⟨hwr,⟨rfl,rfl⟩ | ⟨rfl,rfl⟩⟩:=hrel;all_goals subst hwr
  ·go_wp2
   go_loopw [4,8,18] (fun x _ i wi=>W2=wi∧∃k:Nat,k≤bs.length∧i= .int .i64 k∧x= .int .u32 (crcR 4294967295 (bs.take k))) (fun _ _ i _=>bs.length - (intOf i).toNat)
   case atStart=>exact⟨rfl,0,Nat.zero_le _,rfl,rfl⟩
   case round=>
    obtain⟨hwi,k,hk,rfl,rfl⟩:=hrel;subst hwi;by_cases hlt:k< bs.length
    ·obtain⟨b,hbk⟩:∃b,bs[k]? =some b:=⟨_,List.getElem?_eq_getElem hlt⟩
     obtain⟨gb,ob,rfl,hgb,hx⟩:=(H.out.1.grew HG2.out).2 (by omega);have hbb:=H.out.2 b (List.mem_of_getElem? hbk);obtain⟨bn,rfl⟩:∃n:Nat,b=(n:Int):=⟨b.toNat,by omega⟩;have hcb:=hx k (.int .u8 bn) (by simp[bv,hbk]);have hx0:=crcR_lt (bs:=bs.take k) (x:=4294967295) (fun c hc=>H.out.2 c (List.mem_of_mem_take hc)) (by decide);have hst:=crcR_take hbk 4294967295
     obtain⟨x,hxe⟩:∃x,crcR 4294967295 (bs.take k)=x:=⟨_,rfl⟩;rw[hxe] at hx0 hst ⊢;have e1:=bits_xor_u32 x bn hx0 (by omega);have hx1:=xor_lt32 hx0 (show bn< 4294967296 by omega);have hstp:crcS x ((bn:Nat):Int).toNat=crcH (crcH (x ^^^ bn)):=rfl;rw[hstp] at hst;have e0:(bn:Int) % 4294967296=(bn:Int):=by omega
     clear hstp hxe hbk hbb hx;obtain⟨y,hy⟩:∃y,x ^^^ bn=y:=⟨_,rfl⟩;rw[hy] at e1 hx1 hst;clear hy hx0;obtain⟨i1,q1,v1,z,f1,f2,f3,f4,f5,f6,f7⟩:=crcH_parts y hx1;rw[f7] at hst;obtain⟨i2,q2,v2,z2,g1,g2,g3,g4,g5,g6,g7⟩:=crcH_parts z f6;rw[g7] at hst;have ht1:=(HT.out.cell i1).trans ((crcV_at _ f2).trans (by rw[f4]))
     have ht2:=(HT.out.cell i2).trans ((crcV_at _ g2).trans (by rw[g4]));have hlt16:(i1:Int)< 16:=by omega
     have hlt17:(i2:Int)< 16:=by omega
     clear f2 f4 f6 f7 g2 g4 g6 g7 hx1;have HST:=yH hst;have stl:=HT.out.lt;clear hst;go_wp2
     exact⟨⟨trivial,k+1,by omega,by simp,by rw[HST.out]⟩,by simp[intOf];omega⟩
    ·obtain rfl:k=bs.length:=by omega
     rw[List.take_length];go_wp2
     exact⟨⟨trivial,.inr ⟨by simp,rfl⟩⟩,by simp[intOf]⟩
  ·have hr0:=crcR_lt (bs:=bs) (x:=4294967295) H.out.2 (by decide)
   have e9:bits BinOp.xor IntKind.u32 IntKind.u32.max ((crcR 4294967295 bs:Nat):Int)=((crc bs:Nat):Int):=bits_xor_u32 4294967295 _ (by decide) hr0;clear hr0;go_wp2
   go_ret
   exact⟨rfl,HG2.out⟩
end
section
open Go.RowKit
theorem run_copy_sp {P:Program} {w:World} {dT sT ty elem t:TypeId} {g off dLen dCap sLen sCap:Nat} {sp:Option Addr} {cur cs:List Value} (hu:P.underlying dT=some (.slice elem)) (hs:(P.info? elem).map (·.size)=some 1)
  (hg:w.heap[g]? =some (.cells cur.toArray t (0,0))) (hn:cs.length=Nat.min sLen dLen) (hsrc0:0< cs.length→∃ad,sp=some ad∧∀j v,cs[j]? =some v→w.cell? (ad.add j)=some v) (hfit:off+cs.length≤cur.length) (h1:∀v∈cs,v.oneCell'=true) :
  ∃w',(Builtin.copy_ #[dT,sT] ty #[.slice (some ⟨g,off,none⟩) dLen dCap,.slice sp sLen sCap]).run P w= .ok (.int .i64 cs.length) w'∧Blk w' g t (splice cur off cs).toArray∧w.grownBy w' (some g):=by
 by_cases h0:cs.length=0
 ·obtain rfl:cs=[]:=List.eq_nil_of_length_eq_zero h0
  exact⟨w,run_copy_none (P:=P) w dT sT ty elem _ sp dLen dCap sLen sCap hu hs (by simpa using hn.symm),show _=_ by simpa [splice] using hg,⟨rfl,rfl,rfl,Nat.le_refl _,fun _ _ _=>rfl⟩⟩
 ·obtain⟨ad,rfl,hsrc⟩:=hsrc0 (by omega)
  refine⟨_,run_copy_row (P:=P) w dT sT ty elem g off dLen dCap ad sLen sCap cur.toArray t cs hu hs hg hn hsrc (by simpa using hfit) h1,?_,⟨rfl,rfl,rfl,by simp[World.setRow],fun k _ hk=>setRow_other w g k _ (fun e=>hk (by simp[e]))⟩⟩;have:=setRow_heap w g cur.toArray (cur.toArray.toList.take off++cs++cur.toArray.toList.drop (off+cs.length)).toArray t (0,0) hg;show _=_
  rw[this];simp[splice]
theorem Sl.src {w:World} {A:Option Addr} {n:Nat} {xs:List Value} (h:Sl w 1 A n xs):0< xs.length→∃ad,A=some ad∧∀j v,xs[j]? =some v→w.cell? (ad.add j)=some v:=by
 intro hx;have:=h.1;obtain⟨b,off,rfl, -,hc⟩:=h.2 (by omega);exact⟨_,rfl,fun j v hv=>by rw[Addr.add_lit];exact hc j v hv⟩
end
section
open Go.RowKit
def lowB (x:Nat):List Int:=[((x % 256:Nat):Int),((x / 256 % 256:Nat):Int),((x / 65536 % 256:Nat):Int),((x / 16777216:Nat):Int)]
theorem low_any (x:Nat) (w:World) (hx:x< 4294967296) :
  Calls prog 161 #[.int .u32 x] w fun e w'=>e= .returned (.slice (some ⟨w.heap.size,0,none⟩) 4 4)∧Blk w' w.heap.size 5 (bv (lowB x)).toArray∧Grew w w':=by
 go_enter func161,ntmps161
 go_wp2
 go_ret
 refine⟨by simp,?_,by(repeat (first | (with_reducible exact(Chg.refl _ _)) | (with_reducible refine Chg.alloc ?_ _) | (with_reducible refine Chg.drew ?_) | (with_reducible refine Chg.drewN ?_ _) | ((with_reducible refine Chg.setCell ?_ ?hp _);(case hp=>(intro h;exfalso;simp at h;try omega)))))⟩;have:=Blk.new w 5 (bv (lowB x)).toArray;simpa [bv,lowB] using this
def fitL (b:List Int) (m:Nat):List Int:=((b.length % 256:Nat):Int) :: ((b.length / 256 % 256:Nat):Int) :: (b++List.replicate (m - 2 - b.length) 0)
def sealL (b:List Int) (m:Nat):List Int:=fitL b m++lowB (crc (fitL b m))
theorem fitL_len {b:List Int} {m:Nat} (h:b.length+2≤m):(fitL b m).length=m:=by simp[fitL];omega
theorem sealL_len {b:List Int} {m:Nat} (h:b.length+2≤m):(sealL b m).length=m+4:=by unfold sealL;rw[List.length_append,fitL_len h];rfl
theorem fitL_byte {b:List Int} {m:Nat} (hb:∀x∈b,0≤x∧x≤255):∀x∈fitL b m,0≤x∧x≤255:=by
 intro x hx;simp only[fitL,List.mem_cons,List.mem_append,List.mem_replicate] at hx;rcases hx with rfl | rfl | hx | ⟨-,rfl⟩
 ·omega
 ·omega
 ·exact hb x hx
 ·omega
theorem lowB_byte {x:Nat} (hx:x< 4294967296):∀y∈lowB x,0≤y∧y≤255:=by
 intro y hy;simp only[lowB,List.mem_cons,List.not_mem_nil,or_false] at hy;rcases hy with rfl | rfl | rfl | rfl<;>omega
theorem crc_lt {bs:List Int} (h:∀x∈bs,0≤x∧x≤255):crc bs< 4294967296:=xor_lt32 (by decide) (crcR_lt h (by decide))
theorem sealL_byte {b:List Int} {m:Nat} (hb:∀x∈b,0≤x∧x≤255):∀x∈sealL b m,0≤x∧x≤255:=by
 intro x hx;rcases List.mem_append.1 hx with hx | hx
 ·exact fitL_byte hb x hx
 ·exact lowB_byte (crc_lt (fitL_byte hb)) x hx
theorem blk_two {w:World} {g:Nat} {t:TypeId} {x y:Value} {l:List Value} (h:Blk w g t (x :: y :: l).toArray) (u v:Value):((w.setCell ⟨g,0,none⟩ u).setCell ⟨g,1,none⟩ v).heap[g]? =some (.cells (u :: v :: l).toArray t (0,0)):=by
 have:=(h.put 0 u).put 1 v;simpa [Blk] using this
theorem fit_row {b:List Int} {m:Nat} (hm:b.length+2≤m) {x y:Int} (hx:x=((b.length % 256:Nat):Int)) (hy:y=((b.length / 256 % 256:Nat):Int)) :
  splice (.int .u8 x :: .int .u8 y :: bv (List.replicate (m+2) 0)) 2 (bv b)=bv (fitL b m++[0,0,0,0]):=by
 subst hx hy;have e:m+2=b.length+((m - 2 - b.length)+4):=by omega
 rw[e];simp only[splice,fitL,bv,List.map_cons,List.map_append,List.cons_append,List.take_succ_cons,List.take_zero,List.nil_append,List.length_map,List.map_replicate]
 rw[show 2+b.length=b.length+1+1 from by omega,List.drop_succ_cons,List.drop_succ_cons,List.drop_replicate,show b.length+(m - 2 - b.length+4) - b.length=(m - 2 - b.length)+4 from by omega,←List.replicate_append_replicate];simp[List.replicate]
theorem fit_ok (b:List Int) (m:Nat) (A:Option Addr) (c:Nat) (w:World) (hm:b.length+2≤m) (hm2:m+4≤65536) (hs:Sl w 1 A b.length (bv b)) (hb:∀x∈b,0≤x∧x≤255) :
  Calls prog 135 #[.slice A b.length c,.int .i64 ((m+4:Nat):Int)] w fun e w'=>OwnOut w w' 5 1 (m+4) (bv (sealL b m)) (fun A c=> .tuple #[.slice A (m+4) c,.bool true]) e:=by
 obtain⟨i0,hi0,hz0,hz1,hz2⟩:=info_parts u8Info;have hmk:=run_makeSlice (P:=prog) w 49 5 i0 (.int .u8 0) underlying49 hi0 hz0 .i64 .i64 (m:Int) ((m+4:Nat):Int) (by omega) (by omega) (by rw[hz1];simp;omega) (by rw[hz2];omega) (by omega)
 obtain⟨W1,hW1⟩:∃W1,w.alloc (.cells (madeCells (Value.int .u8 0).cells (((m+4:Nat):Int).toNat*i0.size)) 5)=W1:=⟨_,rfl⟩;rw[hW1] at hmk
 have hB1:Blk W1 w.heap.size 5 (.int .u8 0 :: .int .u8 0 :: bv (List.replicate (m+2) 0)).toArray:=by
  have:=Blk.new w 5 (madeCells (Value.int .u8 0).cells (((m+4:Nat):Int).toNat*i0.size));rw[hW1] at this
  have e:madeCells (Value.int .u8 0).cells (((m+4:Nat):Int).toNat*i0.size)=(.int .u8 0 :: .int .u8 0 :: bv (List.replicate (m+2) 0)).toArray:=by
   apply Array.toList_inj.1
   rw[show(Value.int .u8 0).cells= #[.int .u8 0] from rfl,hz1,Nat.mul_one,Int.toNat_natCast,toList_madeCells_one,show m+4=m+2+1+1 from rfl,List.replicate_succ,List.replicate_succ];simp[bv]
  rw[e] at this;exact this
 have hG1:Grew w W1:=hW1▸(Chg.refl _ _).alloc _;obtain⟨g,hg⟩:∃g,w.heap.size=g:=⟨_,rfl⟩;rw[hg] at hmk hB1;simp only[Int.toNat_natCast] at hmk;have c00:W1.cell? ⟨g,0,none⟩=some (.int .u8 0):=by rw[hB1.cell];rfl
 have c01:W1.cell? ⟨g,1,none⟩=some (.int .u8 0):=by rw[hB1.cell];rfl
 have f00:=hB1.frozen 0;have f01:=hB1.frozen 1;have s00:=hB1.lt;obtain⟨sz,hsz⟩:∃sz,m+4=sz:=⟨_,rfl⟩
 obtain⟨N,hN⟩:∃N:Value→Value→World,∀u v,(Builtin.copy_ #[49,49] 3 #[.slice (some ⟨g,2,none⟩) (m - 2) (sz - 2),.slice A b.length c]).run prog ((W1.setCell ⟨g,0,none⟩ u).setCell ⟨g,1,none⟩ v)= .ok (.int .i64 b.length) (N u v)∧Blk (N u v) g 5 (splice (u :: v :: bv (List.replicate (m+2) 0)) 2 (bv b)).toArray∧Grew w (N u v):=by
  have h:∀u v,∃w',(Builtin.copy_ #[49,49] 3 #[.slice (some ⟨g,2,none⟩) (m - 2) (sz - 2),.slice A b.length c]).run prog ((W1.setCell ⟨g,0,none⟩ u).setCell ⟨g,1,none⟩ v)= .ok (.int .i64 b.length) w'∧Blk w' g 5 (splice (u :: v :: bv (List.replicate (m+2) 0)) 2 (bv b)).toArray∧Grew w w':=fun u v=>by
   have hc:=(hG1.setCell (p:=⟨g,0,none⟩) (fun e=>absurd e (by simp only;omega)) u).setCell (p:=⟨g,1,none⟩) (fun e=>absurd e (by simp only;omega)) v
   obtain⟨w',h1,h2,h3⟩:=run_copy_sp (P:=prog) (ty:=3) (sT:=49) (dLen:=m - 2) (dCap:=sz - 2) (sLen:=b.length) (sCap:=c) (sp:=A) (off:=2) (cs:=bv b) underlying49 (by kernel_rfl) (blk_two hB1 u v) (by rw[bv_len];exact(Nat.min_eq_left (by omega)).symm) (hs.grew hc).src (by rw[bv_len];simp only[List.length_cons,bv_len,List.length_replicate];omega) (bv_one b)
   rw[bv_len] at h1;exact⟨w',h1,h2,hc.grown h3 fun k hk hlt=>by simp at hk;omega⟩
  exact⟨fun u v=>(h u v).choose,fun u v=>(h u v).choose_spec⟩
 have hcp:=fun u v=>(hN u v).1;have HN:=yH (fun u v=>(hN u v).2);clear hN;rw[hsz] at hmk hm2 ⊢;have H:=yH (yA hs hb);have Hsz:=yH hsz;have HB:=yH hB1;have HG:=yH hG1;have Hg:=yH hg;have HM:=yH hm;have HM2:=yH hm2;have a1:decide ((sz:Int)< 6)=false:=decide_eq_false (by omega);have a2:decide ((65536:Int)< (sz:Int))=false:=decide_eq_false (by omega)
 have a4:decide ((sz:Int) - 6< (b.length:Int))=false:=decide_eq_false (by omega);have a5:(sz:Int) - 4=(m:Int):=by omega
 have hm6:2≤m:=by omega
 clear hW1 hB1 hG1 hg hs hb hsz;go_enter func135,ntmps135
 go_wp2_with fail
 have HF:=yH (HN.out (.int .u8 ((b.length:Int) % 256)) (.int .u8 ((b.length:Int) / 256)));obtain⟨W2,hW2⟩:∃W2,N (.int .u8 ((b.length:Int) % 256)) (.int .u8 ((b.length:Int) / 256))=W2:=⟨_,rfl⟩;rw[hW2] at HF ⊢;clear hW2 hcp HN c00 c01 f00 f01 s00 hmk
 have HB2:=yH (show Blk W2 g 5 (bv (fitL b m++[0,0,0,0])).toArray from by have:=HF.out.1;rwa[fit_row HM.out (by omega) (by omega)] at this);have hfl:=fitL_len HM.out;have HFL:=yH hfl
 have HO2:=yH (show W2.ownsRow g 5 1 (.slice (some ⟨g,0,none⟩) m sz) m (bv (fitL b m)) from⟨by rw[bv_len,hfl];omega,.inr ⟨g,sz,(bv (fitL b m++[0,0,0,0])).toArray,rfl,Nat.le_refl _,HB2.out,by have:=Hsz.out;omega,by have:=HM2.out;simp only[maxLen];omega,by have:=Hsz.out;simp[bv,hfl];omega,by simp only[bv,List.map_append,Nat.mul_one];rw[List.take_left' (by simpa using hfl)]⟩⟩)
 clear hfl;refine(sum_any (fitL b m) _ (some ⟨g,0,none⟩) _ sz _ ⟨_,0,rfl,by simp,by have:=(Blk.new W2 49 #[.slice (some ⟨g,0,none⟩) m sz]).cell 0;rw[HFL.out];exact this⟩ (by rw[HFL.out];exact(Sl.of_own (own_base HO2.out (Nat.zero_le _))).grew ((Chg.refl _ _).alloc _)) (fitL_byte H.out.2) (by rw[HFL.out];have:=HM2.out;have:=Hsz.out;omega)).mono ?_;rintro e w3 ⟨rfl,hg3⟩
 have HG3:=yH (show Grew W2 w3 from Grew.trans ((Chg.refl _ _).alloc _) hg3);clear hg3;go_wp2_with fail
 refine(low_any (crc (fitL b m)) _ (crc_lt (fitL_byte H.out.2))).mono ?_;rintro e w4 ⟨rfl,hb4,hg4⟩;have HL:=yH (yA hb4 (Grew.trans HG3.out hg4));obtain⟨l4,hl4⟩:∃l4,w3.heap.size=l4:=⟨_,rfl⟩;rw[hl4] at HL ⊢;clear hb4 hg4 hl4
 have k1:∀j u,(bv (lowB (crc (fitL b m))))[j]? =some u→w4.cell? ((⟨l4,0,none⟩:Addr).add j)=some u:=by intro j u hu;rw[Addr.add_lit,Nat.zero_add,HL.out.1.cell];simpa using hu
 have k2:m+4≤maxLen:=by have:=HM2.out;have:=Hsz.out;simp only[maxLen];omega
 have k3:(m+4)*1≤140737488355328:=by have:=HM2.out;have:=Hsz.out;omega
 have k4:g≤w4.heap.size:=by have:=HL.out.2.size;have:=HB2.out.lt;omega
 have K:=yH (yA4 k1 k2 k3 k4);clear k1 k2 k3 k4
 go_wp2_with (at_builtin;(refine wpList_append_own _ rfl _ _ _ rfl g 5 i0 _ 1 1 underlying49 hi0 hz0 hz1 hz2 rfl (by omega) (.slice (some ⟨g,0,none⟩) m sz) m (bv (fitL b m)) rfl (own_grew HO2.out HL.out.2) ⟨l4,0,none⟩ 4 4 (bv (lowB (crc (fitL b m)))) rfl (by simp[bv,lowB]) K.out.1 (bv_one _) K.out.2.1 K.out.2.2.1 K.out.2.2.2 ?_);intro v1 w5 hown1 hgrow hnil;have HO5:=yH hown1;have HG5:=yH hgrow;clear hown1 hgrow hnil)
 go_ret2
 obtain⟨A',c',rfl, -⟩:=own_shape HO5.out;have hsz:=Hsz.out;have hg:=Hg.out;subst hsz;refine OwnOut.mk A' c' rfl ?_ ?_
 ·have:=HO5.out
  rw[hg];simpa [sealL,bv] using this
 ·exact(Grew.trans HF.out.2 HL.out.2).grown HG5.out (fun k hk hlt=>by simp[Value.ownBlock] at hk;omega)
end
section
open Go.RowKit
theorem conv_bytes {w:World} {A:Option Addr} {bs:List Int} {c:Nat} (h:Sl w 1 A bs.length (bv bs)) :
  (convert 49 9 (.slice A bs.length c)).run prog w= .ok (.string (strOfNums bs)) w:=by
 rcases A with _ | a
 ·have h0:bs=[]:=by
   cases bs with
   | nil=>rfl
   | cons b l=>obtain⟨b,off,e, -⟩:=h.2 (by simp);cases e
  subst h0;exact run_convert_bytes_nil w 49 5 underlying49 (by kernel_rfl) 0 c 9 (by kernel_rfl)
 ·rcases Nat.eq_zero_or_pos bs.length with h0 | h0
  ·obtain rfl:bs=[]:=List.eq_nil_of_length_eq_zero h0
   have hl:(loadCells a 0).run prog w= .ok #[] w:=by simpa using run_loadCells_list (P:=prog) w a [] (fun j v hv=>by simp at hv)
   rw[List.length_nil,run_convert_bytes_string w _ _ 5 _ 0 c underlying49 (by kernel_rfl) (by kernel_rfl)];simp[Conv.bytesToString,hl,strOfNums,Result.andThen]
   rfl
  ·obtain⟨b,off,e,hb,hx⟩:=h.2 h0
   cases e
   refine run_convert_bytes_arg w 49 5 underlying49 (by kernel_rfl) b off bs.length c bs rfl (fun i hi=>?_) 9 (by kernel_rfl);exact hx i _ (by simp[bv,List.getD_eq_getElem?_getD,hi])
def eqB (a b:List Int):Bool:=(strOfNums a).toList==(strOfNums b).toList
theorem byte_inj {x y:Int} (hx:0≤x∧x≤255) (hy:0≤y∧y≤255) (h:UInt8.ofNat x.toNat=UInt8.ofNat y.toNat):x=y:=by
 have:=congrArg UInt8.toNat h;simp only[UInt8.toNat_ofNat'] at this;omega
theorem eqB_eq {a b:List Int} (ha:∀x∈a,0≤x∧x≤255) (hb:∀x∈b,0≤x∧x≤255):eqB a b=decide (a=b):=by
 unfold eqB;rw[ByteArray.toList_eq,ByteArray.toList_eq,strOfNums_data,strOfNums_data,Bool.eq_iff_iff];simp only[beq_iff_eq,decide_eq_true_eq];refine⟨fun h=>?_,fun h=>by rw[h]⟩
 induction a generalizing b with
 | nil=>cases b with
  | nil=>rfl
  | cons y b=>simp at h
 | cons x a ih=>cases b with
  | nil=>simp at h
  | cons y b=>
   simp only[List.map_cons,List.cons.injEq] at h;rw[byte_inj (ha x (by simp)) (hb y (by simp)) h.1,ih (fun z hz=>ha z (by simp[hz])) (fun z hz=>hb z (by simp[hz])) h.2]
theorem beq_any (A B:Option Addr) (a b:List Int) (c d:Nat) (w:World) (h:Sl w 1 A a.length (bv a)) (k:Sl w 1 B b.length (bv b)) :
  Calls prog 148 #[.slice A a.length c,.slice B b.length d] w fun e w'=>e= .returned (.bool (eqB a b))∧w=w':=by
 have h1:=conv_bytes (c:=c) h;have h2:=conv_bytes (c:=d) k;clear h k;go_enter func148,ntmps148
 go_wp2
 go_ret
 exact⟨rfl,rfl⟩
theorem or_le2 (x0 x1:Nat) (h0:x0< 256) (h1:x1< 256):bits BinOp.or IntKind.i64 (x0:Int) ((x1:Int)*256)=((x0+256*x1:Nat):Int):=by
 have e:(x1:Int)*256=((256*x1:Nat):Int):=by omega
 rw[e];have a1:(BitVec.ofInt 64 (x0:Int)).toNat=x0:=by rw[BitVec.ofInt_natCast,BitVec.toNat_ofNat];exact Nat.mod_eq_of_lt (by omega)
 have a2:(BitVec.ofInt 64 ((256*x1:Nat):Int)).toNat=256*x1:=by rw[BitVec.ofInt_natCast,BitVec.toNat_ofNat];exact Nat.mod_eq_of_lt (by omega)
 show IntKind.i64.wrap ((BitVec.ofInt 64 (x0:Int) ||| BitVec.ofInt 64 ((256*x1:Nat):Int)).toNat:Int)=_
 have hor:x0 ||| 256*x1=x0+256*x1:=by
  have:=Nat.two_pow_add_eq_or_of_lt (i:=8) (b:=x0) (by omega) x1;rw[Nat.or_comm,Nat.add_comm];exact this.symm
 rw[BitVec.toNat_or,a1,a2,hor];exact wrap_nat (by omega)
theorem fit_no (n:Nat) (sz:Int) (A:Option Addr) (c:Nat) (w:World) (hn:n≤1000000) (hs:sz≤1000000) (h0:0≤sz) (h:sz< 6∨65536< sz∨sz - 6< n) :
  Calls prog 135 #[.slice A n c,.int .i64 sz] w fun e w'=>e= .returned (.tuple #[.slice none 0 0,.bool false])∧w=w':=by
 by_cases h1:sz< 6
 ·have a1:decide (sz< 6)=true:=decide_eq_true h1
  clear h h1;go_enter func135,ntmps135
  go_wp2
  go_ret2
  exact⟨rfl,rfl⟩
 have a1:decide (sz< 6)=false:=decide_eq_false h1;by_cases h2:65536< sz
 ·have a2:decide (65536< sz)=true:=decide_eq_true h2
  clear h h1 h2;go_enter func135,ntmps135
  go_wp2
  go_ret2
  exact⟨rfl,rfl⟩
 ·have a2:decide (65536< sz)=false:=decide_eq_false h2
  have a3:decide (sz - 6< (n:Int))=true:=decide_eq_true (by omega);clear h h1 h2;go_enter func135,ntmps135
  go_wp2
  go_ret2
  exact⟨rfl,rfl⟩
def cntL (b:List Int):Nat:=(b[0]?.getD 0).toNat+256*(b[1]?.getD 0).toNat
def partL (b:List Int):Option (List Int):=if b.length - 6< cntL b then none else if eqB (sealL ((b.drop 2).take (cntL b)) (b.length - 4)) b then some ((b.drop 2).take (cntL b)) else none
def PartOut (w w':World) (o:Option (List Int)) (e:Ending):Prop:=
 match o with
 | none=>e= .returned (.tuple #[.slice none 0 0,.bool false])∧Grew w w'
 | some x=>OwnOut w w' 5 1 x.length (bv x) (fun A c=> .tuple #[.slice A x.length c,.bool true]) e
theorem part_any (b:List Int) (A:Option Addr) (c:Nat) (w:World) (h6:6≤b.length) (hm:b.length≤65536) (hs:Sl w 1 A b.length (bv b)) (hb:∀x∈b,0≤x∧x≤255) (hc:b.length≤c) :
  Calls prog 143 #[.slice A b.length c] w fun e w'=>PartOut w w' (partL b) e:=by
 obtain⟨g,off,rfl,hg,hx⟩:=hs.2 (by omega);obtain⟨y0,e0⟩:∃y,b[0]? =some y:=⟨_,List.getElem?_eq_getElem (by omega)⟩;obtain⟨y1,e1⟩:∃y,b[1]? =some y:=⟨_,List.getElem?_eq_getElem (by omega)⟩;have b0:=hb _ (List.mem_of_getElem? e0);have b1:=hb _ (List.mem_of_getElem? e1);have d0:=hx 0 (.int .u8 y0) (by simp[bv,e0]);have d1:=hx 1 (.int .u8 y1) (by simp[bv,e1])
 obtain⟨x0,rfl⟩:=Int.eq_ofNat_of_zero_le b0.1;obtain⟨x1,rfl⟩:=Int.eq_ofNat_of_zero_le b1.1;have hcn:cntL b=x0+256*x1:=by unfold cntL;rw[e0,e1];rfl
 have k0:(0:Int)< (b.length:Int):=by omega
 have k1:(1:Int)< (b.length:Int):=by omega
 have n0:0< b.length:=by omega
 have n1:1< b.length:=by omega
 rw[Nat.add_zero] at d0;have hor:=or_le2 x0 x1 (by omega) (by omega);rw[←hcn] at hor;obtain⟨n,hn⟩:∃n,cntL b=n:=⟨_,rfl⟩;rw[hn] at hor;have HC:=yH hn;have HS:=yH (yA hs hb);have a1:decide ((b.length:Int)< 6)=false:=decide_eq_false (by omega);have a2:decide ((65536:Int)< (b.length:Int))=false:=decide_eq_false (by omega);by_cases hle:b.length - 6< n
 ·have hp:partL b=none:=by unfold partL;rw[hn,if_pos hle]
  rw[hp];have a3:decide ((b.length:Int) - 6< (n:Int))=true:=decide_eq_true (by omega);clear e0 e1 hs hb hx hcn hp hle hn;go_enter func143,ntmps143
  go_wp2
  go_quiet (fail)
  go_wp2
  go_ret2
  exact⟨rfl,(Chg.refl _ _).drewN _⟩
 ·have a3:decide ((b.length:Int) - 6< (n:Int))=false:=decide_eq_false (by omega)
  have hnc:(2:Int)+(n:Int)≤(c:Int):=by omega
  have hnb:n≤65536:=by omega
  have hT:((2:Int)+(n:Int)).toNat - 2=n:=by omega
  have HZ:=yH (show b.length - 4+4=b.length from by omega);obtain⟨out,ho⟩:∃out,(b.drop 2).take n=out:=⟨_,rfl⟩;have hol:out.length=n:=by rw[←ho,List.length_take,List.length_drop];omega
  have hbyte:∀x∈out,0≤x∧x≤255:=fun x hx=>hb x (List.mem_of_mem_drop (List.mem_of_mem_take (ho▸hx)))
  have hso:Sl w 1 (some ⟨g,off+2,none⟩) n (bv out):=⟨by rw[bv_len,hol];omega,fun _=>⟨g,off+2,rfl,hg,fun j u hu=>by
   rw[←ho] at hu;have hj:j< n:=by have:=(List.getElem?_eq_some_iff.1 hu).1;rw[bv_len,List.length_take] at this;omega
   rw[Nat.add_assoc];refine hx (2+j) u ?_;rw[←hu];simp[bv,List.getElem?_take,hj,List.getElem?_drop]⟩⟩
  have hp:partL b=if eqB (sealL out (b.length - 4)) b then some out else none:=by unfold partL;rw[hn,if_neg hle,ho]
  have hm1:out.length+2≤b.length - 4:=by omega
  have hcl:∀w',Grew w w'→Calls prog 99 #[.slice (some ⟨g,off+2,none⟩) n (c - 2)] w' fun e w2=>OwnOut w' w2 5 1 n (bv out) (fun A c=> .slice A n c) e:=fun w' h=>by
   have:=bclone_any (some ⟨g,off+2,none⟩) (by simp) out (c - 2) w' (by omega) (by rw[hol];exact hso.grew h);rwa[hol] at this
  have hft:∀A c w',Sl w' 1 A n (bv out)→Calls prog 135 #[.slice A n c,.int .i64 (b.length:Int)] w' fun e w2=>OwnOut w' w2 5 1 b.length (bv (sealL out (b.length - 4))) (fun A c=> .tuple #[.slice A b.length c,.bool true]) e:=fun A c w' h=>by
   have:=fit_ok out (b.length - 4) A c w' (by omega) (by omega) (by rw[hol];exact h) hbyte;rwa[hol,show b.length - 4+4=b.length from by omega] at this
  have hsl:=sealL_len (b:=out) (m:=b.length - 4) (by omega);rw[show b.length - 4+4=b.length from by omega] at hsl
  have heq:∀A c B c' w',Sl w' 1 A b.length (bv (sealL out (b.length - 4)))→Sl w' 1 B b.length (bv b)→Calls prog 148 #[.slice A b.length c,.slice B b.length c'] w' fun e w2=>e= .returned (.bool (eqB (sealL out (b.length - 4)) b))∧w'=w2:=fun A c B c' w' h k=>by
   have:=beq_any A B (sealL out (b.length - 4)) b c c' w' (by rw[hsl];exact h) k;rwa[hsl] at this
  obtain⟨q,hq⟩:∃q,eqB (sealL out (b.length - 4)) b=q:=⟨_,rfl⟩;rw[hq] at hp heq;rw[hp];have HCL:=yH (yA3 hcl hft heq);have HX:=yH (yA4 hso hbyte hol hm1);clear e0 e1 hs hb hx hcn hp hle hn ho hso hbyte hol hm1 hcl hft heq hsl hq
  cases q
  all_goals
   go_enter func143,ntmps143
   go_wp2
   go_quiet (fail)
   go_wp2_with (fail)
   refine(HCL.out.1 _ ((Chg.refl _ _).drewN _)).mono ?_;rintro e w2 ⟨A2,c2,rfl,ho2,hg2⟩;have HO2:=yH (yA ho2 (Grew.trans ((Chg.refl _ _).drewN _) hg2));clear ho2 hg2;go_wp2_with (fail)
   refine(HCL.out.2.1 A2 c2 _ (Sl.of_own (own_base HO2.out.1 (Nat.zero_le _)))).mono ?_;rintro e w3 ⟨A3,c3,rfl,ho3,hg3⟩;have HO3:=yH (yA3 ho3 hg3 (Grew.trans HO2.out.2 hg3));clear ho3 hg3;go_wp2_with (fail)
   refine(HCL.out.2.2 A3 c3 _ c _ (Sl.of_own (own_base HO3.out.1 (Nat.zero_le _))) (HS.out.1.grew HO3.out.2.2)).mono ?_;rintro e w4 ⟨rfl,rfl⟩
   go_wp2
   go_ret2
  ·exact⟨rfl,HO3.out.2.2⟩
  ·show OwnOut _ _ _ _ _ _ _ _
   rw[HX.out.2.2.1];exact OwnOut.mk A2 c2 rfl (own_grew (own_base HO2.out.1 (by simp)) HO3.out.2.1) HO3.out.2.2
end
section
open Go.RowKit
theorem mul64_one (n:Nat) (w:World) (h:n≤64):Calls prog 177 #[.int .u64 1,.int .u64 n] w fun e w'=>e= .returned (.tuple #[.int .u64 0,.int .u64 n])∧w=w':=by
 have f1:bits BinOp.and IntKind.u64 1 4294967295=1:=by decide+kernel
 have f2:bits BinOp.and IntKind.u64 (n:Int) 4294967295=(n:Int):=by
  have:∀k:Fin 65,bits BinOp.and IntKind.u64 ((k.1:Nat):Int) 4294967295=((k.1:Nat):Int):=by decide+kernel
  exact this ⟨n,by omega⟩
 have f3:(n:Int) / 4294967296=0:=by omega
 have f4:bits BinOp.and IntKind.u64 0 4294967295=0:=by decide+kernel
 go_enter func177,ntmps177
 go_wp2
 go_ret2
 exact⟨rfl,rfl⟩
theorem mul_one (n:Nat) (w:World) (h:n≤64):Calls prog 166 #[.int .u64 1,.int .u64 n] w fun e w'=>e= .returned (.tuple #[.int .u64 0,.int .u64 n])∧w=w':=by
 go_enter func166,ntmps166
 go_wp2_with (go_at_call 177;refine(mul64_one n _ h).mono ?_;rintro e w1 ⟨rfl,rfl⟩)
 go_ret2
 exact⟨rfl,rfl⟩
theorem i64Info:(prog.info? 3).map (fun i=>(i.zero,i.size,i.bytes))=some (some (.int .i64 0),1,8):=by kernel_rfl
theorem make_ints (n:Nat) (w:World) (hn:n≤1000000):∃w',(Instr.makeSlice 22 (.int .i64 n) (.int .i64 n)).run prog w= .ok (.slice (some ⟨w.heap.size,0,none⟩) n n) w'∧Blk w' w.heap.size 3 (nv (List.replicate n 0)).toArray∧Grew w w'∧w'.heap.size=w.heap.size+1:=by
 obtain⟨i0,hi0,hz0,hz1,hz2⟩:=info_parts i64Info;have hr:=run_makeSlice (P:=prog) w 22 3 i0 (.int .i64 0) underlying22 hi0 hz0 .i64 .i64 n n (by omega) (by omega) (by rw[hz1];simp;omega) (by rw[hz2];omega) (by omega);refine⟨_,hr,?_,(Chg.refl _ _).alloc _,by simp⟩;have:=Blk.new w 3 (madeCells (Value.int .i64 0).cells ((n:Int).toNat*i0.size))
 have e:madeCells (Value.int .i64 0).cells ((n:Int).toNat*i0.size)=(nv (List.replicate n 0)).toArray:=by
  apply Array.toList_inj.1
  rw[show(Value.int .i64 0).cells= #[.int .i64 0] from rfl,hz1,Nat.mul_one,Int.toNat_natCast,toList_madeCells_one];simp[nv]
 rw[e] at this ⊢;exact this
theorem splice_rep (n c m a:Nat) (hm:m=if n - c< c then n - c else c) (hc:c≤n):splice (nv (List.replicate c a++List.replicate (n - c) 0)) c (nv (List.replicate m a))=nv (List.replicate (c+m) a++List.replicate (n - (c+m)) 0):=by
 have hmn:m≤n - c:=by rw[hm];split<;>omega
 simp only[splice,nv,List.map_append,List.map_replicate,List.length_replicate];rw[List.take_left' (by simp),←List.replicate_append_replicate,List.append_assoc,show c+m=(List.replicate c (Value.int IntKind.i64 (a:Int))).length+m from by simp,List.drop_length_add_append,List.drop_replicate,List.length_replicate,Nat.sub_sub]
theorem repeat_any (n a g0 cp:Nat) (w:World) (hn:n≤64) (hb:Blk w g0 3 #[.int .i64 a]) :
  Calls prog 142 #[.slice (some ⟨g0,0,none⟩) 1 cp,.int .i64 n] w fun e w'=>OwnOut w w' 3 1 n (nv (List.replicate n a)) (fun A c=> .slice A n c) e:=by
 obtain⟨W1,hmk,hB1,hG1, -⟩:=make_ints n w (by omega);obtain⟨g,hg⟩:∃g,w.heap.size=g:=⟨_,rfl⟩;rw[hg] at hmk hB1;obtain⟨w0,rfl⟩:∃w0:World,w0=w:=⟨_,rfl⟩;have hsrc1:=hb.grew hG1
 obtain⟨W2,hcp,hB2,hg2⟩:=run_copy_sp (P:=prog) (ty:=3) (sT:=22) (dLen:=n) (dCap:=n) (sLen:=1) (sCap:=cp) (sp:=some ⟨g0,0,none⟩) (off:=0) (cs:=nv (List.replicate (if n< 1 then n else 1) a)) underlying22 (by kernel_rfl) hB1
  (by rw[nv_len,List.length_replicate];show _=min _ _;rw[Nat.min_def];split<;>split<;>omega)
  (fun _=>⟨_,rfl,fun j v hv=>by
   have hj:j=0:=by have:=(List.getElem?_eq_some_iff.1 hv).1;rw[nv_len,List.length_replicate] at this;split at this<;>omega
   subst hj;have hn0:¬n< 1:=by have:=(List.getElem?_eq_some_iff.1 hv).1;rw[nv_len,List.length_replicate] at this;split at this<;>omega
   rw[Addr.add_lit,hsrc1.cell];simpa [nv,hn0] using hv⟩) (by rw[nv_len,nv_len,List.length_replicate,List.length_replicate];split<;>omega) (nv_one _)
 have hB2':Blk W2 g 3 (nv (List.replicate (if n< 1 then n else 1) a++List.replicate (n - (if n< 1 then n else 1)) 0)).toArray:=by
  have e:=splice_rep n 0 0 a (by simp) (by omega)
  have:splice (nv (List.replicate n 0)) 0 (nv (List.replicate (if n< 1 then n else 1) a))=nv (List.replicate (if n< 1 then n else 1) a++List.replicate (n - (if n< 1 then n else 1)) 0):=by
   simp[splice,nv]
  rw[←this];exact hB2
 obtain⟨m0,hm0⟩:∃m0,(if n< 1 then n else 1)=m0:=⟨_,rfl⟩;rw[nv_len,List.length_replicate,hm0] at hcp;rw[hm0] at hB2';have hm1:m0≤n∧(0< n→0< m0):=by rw[←hm0];split<;>omega
 have HB:=yH (yA hB2' (show Grew w0 W2 from hG1.grown hg2 fun k hk hlt=>by simp at hk;omega));have Hg:=yH hg;have a1:decide ((n:Int)< 0)=false:=decide_eq_false (by omega);clear hB1 hG1 hg hsrc1 hB2 hg2 hm0 hb hB2';go_enter func142,ntmps142
 go_wp2_with (go_at_call 166;refine(mul_one n _ hn).mono ?_;rintro e w1 ⟨rfl,rfl⟩)
 clear hmk hcp;go_loopw [8] (fun i wr=>∃k:Nat,k≤n∧(0< n→0< k)∧i= .int .i64 k∧Blk wr g 3 (nv (List.replicate k a++List.replicate (n - k) 0)).toArray∧Grew w0 wr) (fun i _=>n - (intOf i).toNat)
 case atStart=>exact⟨m0,hm1.1,hm1.2,rfl,HB.out.1,HB.out.2⟩
 case round=>
  obtain⟨k,hk,hk0,rfl,hbr,hgr⟩:=hrel;by_cases hlt:k< n
  ·have hk1:0< k:=hk0 (by omega)
   obtain⟨m,hm⟩:∃m,(if n - k< k then n - k else k)=m:=⟨_,rfl⟩;have hml:m≤n - k∧m≤k∧0< m:=by rw[←hm];split<;>omega
   obtain⟨W3,hcp,hB3,hg3⟩:=run_copy_sp (P:=prog) (w:=wr.drew) (ty:=3) (sT:=22) (dLen:=n - k) (dCap:=n - k) (sLen:=k) (sCap:=n) (sp:=some ⟨g,0,none⟩) (off:=k) (cs:=nv (List.replicate m a)) underlying22 (by kernel_rfl) hbr
    (by rw[nv_len,List.length_replicate];show _=min _ _;rw[Nat.min_def,←hm];split<;>split<;>omega)
    (fun _=>⟨_,rfl,fun j v hv=>by
     have hj:j< m:=by have:=(List.getElem?_eq_some_iff.1 hv).1;rwa[nv_len,List.length_replicate] at this
     rw[Addr.add_lit,Nat.zero_add,(Blk.drew hbr).cell];have:k > j:=by omega
     simp[nv,List.getElem?_append,this] at hv ⊢
     simpa [hj] using hv⟩) (by rw[nv_len,nv_len,List.length_append,List.length_replicate,List.length_replicate,List.length_replicate];omega) (nv_one _)
   rw[splice_rep n k m a hm.symm hk] at hB3;rw[nv_len,List.length_replicate] at hcp;have hG3:Grew w0 W3:=(hgr.drew).grown hg3 fun j hj hlt=>by simp at hj;have:=Hg.out;omega
   have H3:=yH (yA hB3 hG3);have d1:((n:Int) - k).toNat=n - k:=by omega
   have d2:(k:Int)≤(n:Int):=by omega
   have d3:¬n=k:=by omega
   have d4:IntKind.i64.wrap ((k:Int)+m)=(k:Int)+m:=by have:=wrap_nat (n:=k+m) (by omega);rwa[Int.natCast_add] at this
   clear hbr hgr hB3 hg3 hG3 hm;go_wp2
   refine wp_region_held_drew (S:=fun _=>True) (by kernel_rfl) trivial (fun hHeld=>?_);refine Todo.out (is:=[0,1,2,3,4,5,6]) ?_
   repeat
    refine tkH (v:=?_) rfl (Or.inl ⟨by rfl,?_⟩) hHeld ?_;rotate_left
    ·(intro w hSw;(try dsimp only at hSw);go_simp)<;>with_reducible rfl
    (try simp only[Act.put,lZ])
   refine Todo.fin ?_;refine rdH (i:=7) (by kernel_rfl) rfl fun K hK=>?_;go_simp;refine hK.out _ _ trivial (fun _=>?_);clear hK K;(try simp only[Act.put,lZ])
   refine tkH1 (i:=8) (v:=?_) rfl (Or.inl ⟨by rfl,?_⟩) hHeld ?_;rotate_left
   ·(intro w hSw;(try dsimp only at hSw);go_simp)<;>with_reducible rfl
   (try simp only[Act.put,lZ])
   refine rdH (i:=9) (by kernel_rfl) rfl fun K hK=>?_;go_simp;refine hK.out _ _ trivial (fun _=>?_);clear hK K;(try simp only[Act.put,lZ])
   refine wpAnyH_done (by kernel_rfl) ?_ _;go_wp2
   exact⟨⟨k+m,by omega,fun _=>by omega,by simp,H3.out.1,H3.out.2⟩,by simp[intOf];omega⟩
  ·obtain rfl:k=n:=by omega
   have HR:=yH (yA hbr hgr);clear hbr hgr;go_wp2
   go_ret
   refine OwnOut.mk (some ⟨g,0,none⟩) k rfl ?_ HR.out.2;have h1:=HR.out.1;simp only[Nat.sub_self,List.replicate_zero,List.append_nil] at h1;rw[Hg.out];refine⟨by rw[nv_len,List.length_replicate];omega,.inr ⟨g,k,_,rfl,Nat.le_refl _,h1,Nat.le_refl _,by simp only[maxLen];omega,by simp[nv],by simp[nv]⟩⟩
end
section
open Go.RowKit
def iv (l:List Int):List Value:=l.map (.int .i64)
theorem iv_len (l:List Int):(iv l).length=l.length:=by simp[iv]
theorem iv_one (l:List Int):∀u∈iv l,u.oneCell'=true:=by
 intro u hu;obtain⟨x, -,rfl⟩:=List.mem_map.1 hu;rfl
theorem nv_iv (l:List Nat):nv l=iv (l.map fun n:Nat=>(n:Int)):=by simp[nv,iv,Function.comp_def]
def goodN (n:Int):Prop:=0≤n∧n< 4096
instance (n:Int):Decidable (goodN n):=inferInstanceAs (Decidable (_∧_))
theorem wrong_no (n:Int) (w:World) (h:goodN n):Calls prog 159 #[.int .i64 n] w fun e w'=>e= .returned (.bool false)∧w=w':=by
 have a1:decide (n< 0)=false:=decide_eq_false (by have:=h.1;omega);have a2:decide (4096≤n)=false:=decide_eq_false (by have:=h.2;omega);clear h;go_enter func159,ntmps159
 go_wp2
 go_ret
 exact⟨rfl,rfl⟩
theorem wrong_yes (n:Int) (w:World) (h:¬goodN n):Calls prog 159 #[.int .i64 n] w fun e w'=>e= .returned (.bool true)∧w=w':=by
 by_cases h0:n< 0
 ·have a1:decide (n< 0)=true:=decide_eq_true h0
  clear h h0;go_enter func159,ntmps159
  go_wp2
  go_ret
  exact⟨rfl,rfl⟩
 ·have a1:decide (n< 0)=false:=decide_eq_false h0
  have a2:decide (4096≤n)=true:=decide_eq_true (by
   rcases Int.lt_or_le n 4096 with h4 | h4
   ·exact absurd ⟨by omega,h4⟩ h
   ·exact h4)
  clear h h0;go_enter func159,ntmps159
  go_wp2
  go_ret
  exact⟨rfl,rfl⟩
theorem index_none (l:List Int) (A:Option Addr) (c:Nat) (w:World) (hs:Sl w 1 A l.length (iv l)) (hl:l.length≤1000000) (h:∀x∈l,goodN x) :
  Calls prog 174 #[.slice A l.length c,.func (.func 159) #[] #[]] w fun e w'=>e= .returned (.int .i64 (-1))∧w=w':=by
 have H:=yH (yA hs h);clear hs h;go_enter func174,ntmps174
 go_wp2
 go_loop [5,8] (fun x i=>∃k:Nat,k≤l.length∧i= .int .i64 k) (fun _ i=>l.length - (intOf i).toNat)
 case atStart=>exact⟨0,Nat.zero_le _,rfl⟩
 case round=>
  obtain⟨k,hk,rfl⟩:=hrel;by_cases hlt:k< l.length
  ·obtain⟨n,hnk⟩:∃n,l[k]? =some n:=⟨_,List.getElem?_eq_getElem hlt⟩
   have hg:=H.out.2 n (List.mem_of_getElem? hnk);obtain⟨b,off,rfl,hblt,hx⟩:=H.out.1.2 (by omega);have hc:=hx k (.int .i64 n) (by simp[iv,hnk]);clear hx hnk;go_wp2_with (go_at_call 159;refine(wrong_no n _ hg).mono ?_;rintro e w1 ⟨rfl,rfl⟩)
   exact⟨⟨k+1,by omega,by simp⟩,by simp[intOf];omega⟩
  ·obtain rfl:k=l.length:=by omega
   go_wp2
   go_ret
   exact⟨rfl,rfl⟩
theorem index_some (l:List Int) (j:Nat) (A:Option Addr) (c:Nat) (w:World) (hs:Sl w 1 A l.length (iv l)) (hl:l.length≤1000000) (hj:j< l.length) (h:∀k x,l[k]? =some x→(k< j→goodN x)∧(k=j→¬goodN x)) :
  Calls prog 174 #[.slice A l.length c,.func (.func 159) #[] #[]] w fun e w'=>e= .returned (.int .i64 j)∧w=w':=by
 have H:=yH (yA hs h);clear hs h;go_enter func174,ntmps174
 go_wp2
 go_loop [5,8] (fun x i=>∃k:Nat,k≤j∧i= .int .i64 k) (fun _ i=>l.length - (intOf i).toNat)
 case atStart=>exact⟨0,Nat.zero_le _,rfl⟩
 case round=>
  obtain⟨k,hk,rfl⟩:=hrel;have hlt:k< l.length:=by omega
  obtain⟨n,hnk⟩:∃n,l[k]? =some n:=⟨_,List.getElem?_eq_getElem hlt⟩;have hg:=H.out.2 k n hnk;obtain⟨b,off,rfl,hblt,hx⟩:=H.out.1.2 (by omega);have hc:=hx k (.int .i64 n) (by simp[iv,hnk]);have HG:=yH hg;clear hx hnk hg;by_cases hkj:k< j
  ·go_wp2_with (go_at_call 159;refine(wrong_no n _ (HG.out.1 hkj)).mono ?_;rintro e w1 ⟨rfl,rfl⟩)
   exact⟨⟨k+1,by omega,by simp⟩,by simp[intOf];omega⟩
  ·obtain rfl:k=j:=by omega
   go_wp2_with (go_at_call 159;refine(wrong_yes n _ (HG.out.2 rfl)).mono ?_;rintro e w1 ⟨rfl,rfl⟩)
   go_ret
   exact⟨rfl,rfl⟩
theorem contains_any (l:List Int) (A:Option Addr) (c:Nat) (w:World) (hs:Sl w 1 A l.length (iv l)) (hl:l.length≤1000000) :
  Calls prog 160 #[.slice A l.length c,.func (.func 159) #[] #[]] w fun e w'=>e= .returned (.bool (decide (¬∀x∈l,goodN x)))∧w=w':=by
 by_cases h:∀x∈l,goodN x
 ·have hd:decide (¬∀x∈l,goodN x)=false:=decide_eq_false (by simpa using h)
  rw[hd];have H:=yH h;clear h hd;go_enter func160,ntmps160
  go_wp2_with (go_at_call 174;refine(index_none l A c _ hs hl H.out).mono ?_;rintro e w1 ⟨rfl,rfl⟩)
  go_ret
  exact⟨rfl,rfl⟩
 ·have hd:decide (¬∀x∈l,goodN x)=true:=decide_eq_true h
  rw[hd]
  obtain⟨j,hj,hp⟩:∃j,j< l.length∧∀k x,l[k]? =some x→(k< j→goodN x)∧(k=j→¬goodN x):=by
   clear hs hl hd
   induction l with
   | nil=>exact absurd (fun x hx=>by simp at hx) h
   | cons y l ih=>
    by_cases hy:goodN y
    ·obtain⟨j,hj,hp⟩:=ih (fun hl=>h fun x hx=>by
      rcases List.mem_cons.1 hx with rfl | hx
      ·exact hy
      ·exact hl x hx)
     refine⟨j+1,by simp;omega,fun k x hk=>?_⟩
     cases k with
     | zero=>simp at hk;subst hk;exact⟨fun _=>hy,fun e=>by omega⟩
     | succ k=>
      have:=hp k x (by simpa using hk);exact⟨fun h=>this.1 (by omega),fun h=>this.2 (by omega)⟩
    ·refine⟨0,by simp,fun k x hk=>⟨fun h=>by omega,fun e=>?_⟩⟩
     subst e;simp at hk;subst hk;exact hy
  have H:=yH hp;clear h hd hp;go_enter func160,ntmps160
  go_wp2_with (go_at_call 174;refine(index_some l j A c _ hs hl hj H.out).mono ?_;rintro e w1 ⟨rfl,rfl⟩)
  go_ret
  exact⟨rfl,rfl⟩
def rightB (ep:Int) (l:List Int):Bool:=decide (1≤ep) && decide (ep≤1099511627776) && decide (l.length≤64) && decide (∀x∈l,goodN x)
theorem right_any (ep:Int) (l:List Int) (A:Option Addr) (c:Nat) (w:World) (hs:Sl w 1 A l.length (iv l)) (hl:l.length≤1000000) :
  Calls prog 134 #[.agg #[.int .i64 ep,.slice A l.length c]] w fun e w'=>e= .returned (.bool (rightB ep l))∧Grew w w':=by
 have hc:=fun w h=>contains_any l A c w h hl;obtain⟨q,hq⟩:∃q,decide (¬∀x∈l,goodN x)=q:=⟨_,rfl⟩;have hr:rightB ep l=(decide (1≤ep) && decide (ep≤1099511627776) && decide (l.length≤64) && !q):=by rw[←hq,decide_not,Bool.not_not];rfl
 rw[hr];rw[hq] at hc;have H:=yH (yA hs hc);clear hs hc hr hq;by_cases h1:1≤ep
 ·have a1:decide (1≤ep)=true:=decide_eq_true h1
  by_cases h2:ep≤1099511627776
  ·have a2:decide (ep≤1099511627776)=true:=decide_eq_true h2
   by_cases h3:l.length≤64
   ·have a3:decide (l.length≤64)=true:=decide_eq_true h3
    have a4:decide ((l.length:Int)≤64)=true:=decide_eq_true (by omega);clear h1 h2 h3
    cases q
    all_goals
     go_enter func134,ntmps134
     go_wp2_with (go_at_call 160;refine(H.out.2 _ (H.out.1.grew ((Chg.refl _ _).alloc _))).mono ?_;rintro e w1 ⟨rfl,rfl⟩)
     go_ret
     exact⟨by simp[a1,a2,a3],(Chg.refl _ _).alloc _⟩
   ·have a3:decide (l.length≤64)=false:=decide_eq_false h3
    have a4:decide ((l.length:Int)≤64)=false:=decide_eq_false (by omega);clear h1 h2 h3;go_enter func134,ntmps134
    go_wp2
    go_ret
    exact⟨by simp[a1,a2,a3],(Chg.refl _ _).alloc _⟩
  ·have a2:decide (ep≤1099511627776)=false:=decide_eq_false h2
   clear h1 h2;go_enter func134,ntmps134
   go_wp2
   go_ret
   exact⟨by simp[a1,a2],(Chg.refl _ _).alloc _⟩
 ·have a1:decide (1≤ep)=false:=decide_eq_false h1
  clear h1;go_enter func134,ntmps134
  go_wp2
  go_ret
  exact⟨by simp[a1],(Chg.refl _ _).alloc _⟩
end
section
open Go.RowKit
def numsL (bs:List Int) (m k:Nat):List Int:=(List.range m).map fun i=>getL ((bs.drop (k*i)).take k)
theorem numsL_len (bs:List Int) (m k:Nat):(numsL bs m k).length=m:=by simp[numsL]
theorem numsL_succ (bs:List Int) (m k:Nat):numsL bs (m+1) k=numsL bs m k++[getL ((bs.drop (k*m)).take k)]:=by simp[numsL,List.range_succ]
theorem iv_snoc (l:List Int) (a:Int):iv l++[.int .i64 a]=iv (l++[a]):=by simp[iv]
theorem bnumbers_any (g off c:Nat) (bs:List Int) (m k:Nat) (w:World) (hk:1≤k∧k≤8) (hm:k*m≤bs.length) (hl:bs.length≤4096) (hc:bs.length≤c) (hcm:c≤9223372036854775807) (hb:∀q∈bs,0≤q∧q≤255) (hs:Sl w 1 (some ⟨g,off,none⟩) bs.length (bv bs)) :
  Calls prog 86 #[.slice (some ⟨g,off,none⟩) bs.length c,.int .i64 m,.int .i64 k] w fun e w'=>OwnOut w w' 3 1 m (iv (numsL bs m k)) (fun A c=> .slice A m c) e:=by
 have H:=yH (yA hs hb);obtain⟨hk1,hk2⟩:=hk
 have hmm:m≤4096:=by
  have:1*m≤k*m:=Nat.mul_le_mul_right _ hk1;omega
 clear hs hb;go_enter func86,ntmps86
 go_wp2
 go_loopg [7,10] m (fun q v i wr=>∃ (j:Nat),q=m - j∧j≤m∧i= .int .i64 j∧wr.ownsRow w.heap.size 3 1 v j (iv (numsL bs j k))∧Grew w wr)
 case atStart=>exact⟨0,rfl,Nat.zero_le _,rfl,World.ownsRow_nil _ _ _ _,Chg.refl _ _⟩
 case round=>
  obtain⟨j,rfl,hj,rfl,hown,hg⟩:=hrel;have HJ:=yH (yA hown hg);have hbr:w.heap.size≤wr.heap.size:=hg.size;clear hown hg;by_cases hlt:j< m
  ·have hkj:k*j+k≤bs.length:=by
    have:k*(j+1)≤k*m:=Nat.mul_le_mul_left _ hlt;rw[Nat.mul_add,Nat.mul_one] at this;omega
   have hkj1:(k:Int)*(j:Int)=((k*j:Nat):Int):=by simp
   obtain⟨kj,hkje⟩:∃q,k*j=q:=⟨_,rfl⟩;rw[hkje] at hkj hkj1;have hw1:IntKind.i64.wrap ((k:Int)*(j:Int))=(kj:Int):=by rw[hkj1];exact IntWalk.i64_in _ ⟨by omega,by omega⟩
   have hsub:=Sl.sub (H.out.1.grew HJ.out.2) (i:=kj) (m:=k) (by omega) ((bs.drop kj).take k) rfl;have hsl:((bs.drop kj).take k).length=k:=by simp;omega
   have hget:=fun c'=>bget_any g (off+kj) k c' ((bs.drop kj).take k) wr hsl hk1 hk2 (fun q hq=>H.out.2 q (List.mem_of_mem_drop (List.mem_of_mem_take hq))) hsub;have HG:=yH (yA hget hkje);clear hsub hsl hget hkje;go_wp2_with fail
   refine(HG.out.1 (c - kj)).mono ?_;rintro e w3 ⟨rfl,hg3⟩;have HJ3:=yH (yA (own_grew HJ.out.1 hg3) (Grew.trans HJ.out.2 hg3));have hbr3:w.heap.size≤w3.heap.size:=Nat.le_trans hbr hg3.size;clear hg3
   go_wp2_with (at_builtin;refine app_int rfl _ _ rfl w.heap.size _ j (iv (numsL bs j k)) rfl HJ3.out.1 (getL ((bs.drop kj).take k)) rfl (by omega) hbr3 ?_;intro v1 w4 hown1 hap1;have HO1:=yH (yA hown1 hap1);clear hown1 hap1)
   go_roundg (m - (j+1))
   case measure=>omega
   case rel=>
    refine⟨j+1,rfl,by omega,by simp,?_,HO1.out.2.grow HJ3.out.2 fun q hq=>(HJ3.out.1.lt q hq).1⟩;have:=HO1.out.1;rw[iv_snoc] at this;rw[numsL_succ,HG.out.2];exact this
  ·obtain rfl:j=m:=by omega
   go_wp2
   go_ret
   obtain⟨A,c',rfl, -⟩:=own_shape HJ.out.1;exact OwnOut.mk A c' rfl HJ.out.1 HJ.out.2
end
section
open Go.RowKit
structure Nd where
 keys:List Int
 vals:List Int
 kids:List Nat
def mostN (sz:Nat):Nat:=(sz - 4) / 18
def halfN (sz:Nat):Nat:=(mostN sz+1) / 2
def enc8 (l:List Int):List Int:=l.flatMap fun n=>encL n 8
def enc2 (l:List Nat):List Int:=l.flatMap fun(n:Nat)=>encL (n:Int) 2
def Nd.body (nd:Nd):List Int:=[if nd.kids.length=0 then 1 else 2,((nd.keys.length % 256:Nat):Int)]++enc8 nd.keys++enc8 nd.vals++enc2 nd.kids
def ndL (nd:Nd) (sz:Nat):List Int:=nd.body++List.replicate (sz - nd.body.length) 0
def i64 (n:Int):Prop:= -9223372036854775808≤n∧n≤9223372036854775807
structure Nd.Fit (nd:Nd) (sz:Nat):Prop where
 vals:nd.vals.length=nd.keys.length
 most:nd.keys.length≤mostN sz
 kids:nd.kids.length=0∨nd.kids.length=nd.keys.length+1
 ki:∀k∈nd.keys,i64 k
 vi:∀v∈nd.vals,i64 v
 ci:∀c∈nd.kids,c< 65536
def decN (bs:List Int) (sz:Nat):Option Nd:=
 if (bs.getD 0 0≠1∧bs.getD 0 0≠2)∨mostN sz< (bs.getD 1 0).toNat then none
 else some ⟨numsL (bs.drop 2) (bs.getD 1 0).toNat 8,numsL (bs.drop (2+8*(bs.getD 1 0).toNat)) (bs.getD 1 0).toNat 8,if bs.getD 0 0=2 then(numsL (bs.drop (2+16*(bs.getD 1 0).toNat)) ((bs.getD 1 0).toNat+1) 2).map Int.toNat else []⟩
theorem numsL_cons (bs:List Int) (m k:Nat):numsL bs (m+1) k=getL (bs.take k) :: numsL (bs.drop k) m k:=by
 unfold numsL;rw[List.range_succ_eq_map,List.map_cons,List.map_map];congr 1
 refine List.map_congr_left fun i _=>?_;simp only[Function.comp,List.drop_drop];rw[show k+k*i=k*(i+1) from by rw[Nat.mul_add];omega]
theorem numsL_flat {α:Type} (f:α→List Int) (k:Nat) (hf:∀a,(f a).length=k):∀ (l:List α) (r:List Int),numsL (l.flatMap f++r) l.length k=l.map fun a=>getL (f a)
 | [],r=>rfl
 | a :: l,r=>by
  rw[List.length_cons,numsL_cons,List.flatMap_cons,List.append_assoc,List.map_cons];have h1:(f a++(l.flatMap f++r)).take k=f a:=by rw[←hf a,List.take_left]
  have h2:(f a++(l.flatMap f++r)).drop k=l.flatMap f++r:=by rw[←hf a,List.drop_left]
  rw[h1,h2,numsL_flat f k hf l r]
theorem flat_len {α:Type} (f:α→List Int) (k:Nat) (hf:∀a,(f a).length=k):∀ (l:List α),(l.flatMap f).length=k*l.length
 | []=>by simp
 | a :: l=>by rw[List.flatMap_cons,List.length_append,hf,flat_len f k hf l,List.length_cons,Nat.mul_add];omega
theorem enc8_len (l:List Int):(enc8 l).length=8*l.length:=flat_len _ 8 (fun a=>encL_len a 8) l
theorem enc2_len (l:List Nat):(enc2 l).length=2*l.length:=flat_len _ 2 (fun(a:Nat)=>encL_len (a:Int) 2) l
theorem Nd.body_len (nd:Nd):nd.body.length=2+8*nd.keys.length+8*nd.vals.length+2*nd.kids.length:=by
 simp only[Nd.body,List.length_append,enc8_len,enc2_len,List.length_cons,List.length_nil]
theorem Nd.Fit.len {nd:Nd} {sz:Nat} (h:nd.Fit sz) (hz:64≤sz):nd.body.length≤sz:=by
 have h1:=h.vals;have h2:=h.most;have h3:=h.kids;rw[Nd.body_len];unfold mostN at h2;omega
theorem ndL_len {nd:Nd} {sz:Nat} (h:nd.Fit sz) (hz:64≤sz):(ndL nd sz).length=sz:=by
 have:=h.len hz;simp only[ndL,List.length_append,List.length_replicate];omega
theorem ndL_byte (nd:Nd) (sz:Nat):∀q∈ndL nd sz,0≤q∧q≤255:=by
 intro q hq;simp only[ndL,Nd.body,List.mem_append,List.mem_cons,List.not_mem_nil,or_false,enc8,enc2,List.mem_flatMap,List.mem_replicate] at hq;rcases hq with (((h | ⟨a, -,h⟩) | ⟨a, -,h⟩) | ⟨a, -,h⟩) | ⟨-,rfl⟩
 ·rcases h with rfl | rfl
  ·split<;>omega
  ·omega
 ·exact encL_byte _ _ q h
 ·exact encL_byte _ _ q h
 ·exact encL_byte _ _ q h
 ·omega
theorem map_id' {α:Type} {f:α→α} {l:List α} (h:∀a∈l,f a=a):l.map f=l:=by
 have:=List.map_congr_left (f:=f) (g:=id) h;rw[this,List.map_id]
theorem decN_mk {bs:List Int} {sz m:Nat} {a:Int} {K V C:List Int} (h0:a=1∨a=2) (hm:m≤mostN sz) (hd:bs=a :: ((m:Nat):Int) :: (K++(V++C))) (hK:K.length=8*m) (hV:V.length=8*m) :
  decN bs sz=some ⟨numsL (K++(V++C)) m 8,numsL (V++C) m 8,if a=2 then(numsL C (m+1) 2).map Int.toNat else []⟩:=by
 have e0:bs.getD 0 0=a:=by rw[hd];simp
 have e1:(bs.getD 1 0).toNat=m:=by rw[hd];simp
 have d2:bs.drop 2=K++(V++C):=by rw[hd];simp
 have d3:bs.drop (2+8*m)=V++C:=by rw[←List.drop_drop,d2,←hK,List.drop_left]
 have d4:bs.drop (2+16*m)=C:=by rw[show 2+16*m=(2+8*m)+8*m by omega,←List.drop_drop,d3,←hV,List.drop_left]
 have hne:¬ ((bs.getD 0 0≠1∧bs.getD 0 0≠2)∨mostN sz< (bs.getD 1 0).toNat):=by
  rw[e0,e1];rintro(⟨h1,h2⟩ | h1)
  ·rcases h0 with e | e
   ·exact h1 e
   ·exact h2 e
  ·omega
 unfold decN;rw[if_neg hne,e0,e1,d2,d3,d4]
theorem numsL_enc8 (l:List Int) (h:∀k∈l,i64 k) (r:List Int):numsL (enc8 l++r) l.length 8=l:=by
 unfold enc8;rw[numsL_flat _ 8 fun a=>encL_len a 8];exact map_id' fun a ha=>getL_enc8 (h a ha)
theorem numsL_enc2 (l:List Nat) (h:∀c∈l,c< 65536) (r:List Int):(numsL (enc2 l++r) l.length 2).map Int.toNat=l:=by
 unfold enc2;rw[numsL_flat _ 2 fun(a:Nat)=>encL_len (a:Int) 2,List.map_map];refine map_id' fun a ha=>?_;rw[Function.comp_apply,getL_enc2 (h a ha),Int.toNat_natCast]
theorem decN_ndL {nd:Nd} {sz:Nat} (h:nd.Fit sz) (hz2:sz≤4096):decN (ndL nd sz) sz=some nd:=by
 have hm:nd.keys.length≤255:=by have:=h.most;unfold mostN at this;omega
 have hmod:nd.keys.length % 256=nd.keys.length:=Nat.mod_eq_of_lt (by omega)
 have hd:ndL nd sz=(if nd.kids.length=0 then 1 else 2) :: ((nd.keys.length:Nat):Int) :: (enc8 nd.keys++(enc8 nd.vals++(enc2 nd.kids++List.replicate (sz - nd.body.length) 0))):=by
  unfold ndL;generalize List.replicate (sz - nd.body.length) (0:Int)=Z
  unfold Nd.body;rw[hmod];simp only[List.append_assoc,List.cons_append,List.nil_append]
 rw[decN_mk (by split<;>simp) h.most hd (enc8_len _) (by rw[enc8_len,h.vals]),numsL_enc8 _ h.ki]
 have k2:numsL (enc8 nd.vals++(enc2 nd.kids++List.replicate (sz - nd.body.length) 0)) nd.keys.length 8=nd.vals:=by
  rw[←h.vals];exact numsL_enc8 _ h.vi _
 rw[k2]
 have k3:(if (if nd.kids.length=0 then(1:Int) else 2)=2 then(numsL (enc2 nd.kids++List.replicate (sz - nd.body.length) 0) (nd.keys.length+1) 2).map Int.toNat else [])=nd.kids:=by
  rcases h.kids with e | e
  ·rw[if_pos e,if_neg (by omega),List.eq_nil_of_length_eq_zero e]
  ·rw[if_neg (show¬nd.kids.length=0 by omega),if_pos rfl,←e]
   exact numsL_enc2 _ h.ci _
 rw[k3]
theorem decN_fit {bs:List Int} {sz:Nat} {nd:Nd} (h:decN bs sz=some nd) (hb:∀q∈bs,0≤q∧q≤255) (hl:bs.length=sz) (hz:64≤sz):nd.Fit sz:=by
 unfold decN at h;split at h
 ·cases h
 ·rename_i hc
  simp only[not_or,Nat.not_lt] at hc;injection h with h;obtain⟨m,hm⟩:∃m,(bs.getD 1 0).toNat=m:=⟨_,rfl⟩;rw[hm] at h hc;have hmost:=hc.2;subst h;refine⟨by simp[numsL_len],by simpa [numsL_len] using hmost,?_,fun k hk=>?_,fun v hv=>?_,fun c hc'=>?_⟩
  ·simp only
   split
   ·right;simp[numsL_len]
   ·left;rfl
  ·obtain⟨i, -,rfl⟩:=List.mem_map.1 hk
   exact getL_bnd _
  ·obtain⟨i, -,rfl⟩:=List.mem_map.1 hv
   exact getL_bnd _
  ·simp only at hc'
   split at hc'
   ·obtain⟨n,hn,rfl⟩:=List.mem_map.1 hc'
    obtain⟨i,hi,rfl⟩:=List.mem_map.1 hn;have hi':=List.mem_range.1 hi
    have:=getL_2 (l:=((bs.drop (2+16*m)).drop (2*i)).take 2) (fun q hq=>hb q (List.mem_of_mem_drop (List.mem_of_mem_drop (List.mem_of_mem_take hq)))) (by
     unfold mostN at hmost;simp only[List.length_take,List.length_drop];omega)
    omega
   ·cases hc'
end
section
abbrev KV:=Int×Int
def Nd.kvs (nd:Nd):List KV:=nd.keys.zip nd.vals
inductive Fr (R:Nat→List KV→List Nat→Prop):List Nat→List KV→List KV→List Nat→Prop where
 | one {q M P}:R q M P→Fr R [q] [] M P
 | cons {q M P k ks kv L P'}:R q M P→Fr R ks kv L P'→Fr R (q :: ks) (k :: kv) (M++k :: L) (P++P')
inductive Pre (R:Nat→List KV→List Nat→Prop):List Nat→List KV→List KV→List Nat→Prop where
 | nil:Pre R [] [] [] []
 | cons {q M P k ks kv L P'}:R q M P→Pre R ks kv L P'→Pre R (q :: ks) (k :: kv) (M++k :: L) (P++P')
inductive Suf (R:Nat→List KV→List Nat→Prop):List Nat→List KV→List KV→List Nat→Prop where
 | nil:Suf R [] [] [] []
 | cons {q M P k ks kv L P'}:R q M P→Suf R ks kv L P'→Suf R (q :: ks) (k :: kv) (k :: (M++L)) (P++P')
section
variable {R R':Nat→List KV→List Nat→Prop} {ks ka kb:List Nat} {kv va vb L M A B:List KV} {P PA PB PM:List Nat}
theorem Fr.len (h:Fr R ks kv L P):ks.length=kv.length+1:=by
 induction h with
 | one _=>rfl
 | cons _ _ ih=>simp[ih]
theorem Fr.sub (h:Fr R ks kv L P):kv.Sublist L:=by
 induction h with
 | one _=>exact List.nil_sublist _
 | cons _ _ ih=>exact(List.Sublist.cons_cons _ ih).trans (List.sublist_append_right _ _)
theorem Fr.snoc {q:Nat} {N:List KV} {Q:List Nat} {k:KV} (h:Fr R ks kv L P) (hq:R q N Q):Fr R (ks++[q]) (kv++[k]) (L++k :: N) (P++Q):=by
 induction h with
 | one h1=>exact .cons h1 (.one hq)
 | @cons q1 M1 P1 k1 ks1 kv1 L1 P2 h1 _ ih=>
  have:=Fr.cons (k:=k1) h1 ih;simpa [List.append_assoc] using this
theorem Fr.inv {q:Nat} {k:KV} (h:Fr R (q :: ks) (k :: kv) L P):∃M Q L' P',R q M Q∧Fr R ks kv L' P'∧L=M++k :: L'∧P=Q++P':=by
 generalize hK:q :: ks=K at h
 generalize hV:k :: kv=V at h
 cases h with
 | one h1=>cases hV
 | cons h1 h2=>cases hK;cases hV;exact⟨_,_,_,_,h1,h2,rfl,rfl⟩
theorem Fr.suf {k:KV} (h:Fr R ks kv L P):Suf R ks (k :: kv) (k :: L) P:=by
 induction h generalizing k with
 | @one q M P h1=>
  have:=Suf.cons (k:=k) h1 Suf.nil
  simpa using this
 | cons h1 _ ih=>exact Suf.cons h1 ih
theorem Fr.inv1 {q:Nat} {vb:List KV} (h:Fr R (q :: kb) vb L P):∃M Q B PB,R q M Q∧Suf R kb vb B PB∧L=M++B∧P=Q++PB:=by
 generalize hK:q :: kb=K at h
 cases h with
 | one h1=>cases hK;exact⟨_,_,[],[],h1,.nil,by simp,by simp⟩
 | cons h1 h2=>cases hK;exact⟨_,_,_,_,h1,h2.suf,rfl,rfl⟩
theorem Suf.join (h:Suf R kb vb B PB):∀ {ks kv M PM},Fr R ks kv M PM→Fr R (ks++kb) (kv++vb) (M++B) (PM++PB):=by
 induction h with
 | nil=>intro ks kv M PM h;simpa using h
 | @cons q1 M1 P1 k1 ks1 kv1 L1 P2 h1 _ ih=>
  intro ks kv M PM h;have:=ih (h.snoc (k:=k1) h1);simpa [List.append_assoc] using this
theorem Pre.join (h:Pre R ka va A PA) (hf:Fr R ks kv M PM):Fr R (ka++ks) (va++kv) (A++M) (PA++PM):=by
 induction h with
 | nil=>simpa using hf
 | @cons q1 M1 P1 k1 ks1 kv1 L1 P2 h1 _ ih=>
  have:=Fr.cons (k:=k1) h1 ih;simpa [List.append_assoc] using this
theorem Fr.cutl:∀ {ka:List Nat} {va:List KV} {ks:List Nat} {kv L:List KV} {P:List Nat},Fr R (ka++ks) (va++kv) L P→va.length=ka.length→∃A PA M PM,Pre R ka va A PA∧Fr R ks kv M PM∧L=A++M∧P=PA++PM
 | [],[],ks,kv,L,P,h,_=>⟨[],[],L,P,.nil,h,rfl,rfl⟩
 | [],_ :: _,_,_,_,_,_,e=>by simp at e
 | _ :: _,[],_,_,_,_,_,e=>by simp at e
 | q :: ka,k :: va,ks,kv,L,P,h,e=>by
  simp only[List.cons_append] at h;obtain⟨M1,Q1,L1,P1,h1,h2,rfl,rfl⟩:=h.inv;obtain⟨A,PA,M,PM,g1,g2,rfl,rfl⟩:=Fr.cutl h2 (by simpa using e);exact⟨_,_,M,PM,.cons h1 g1,g2,by simp,by simp⟩
theorem Fr.cutr:∀ {ks:List Nat} {kv:List KV} {kb:List Nat} {vb L:List KV} {P:List Nat},Fr R (ks++kb) (kv++vb) L P→ks.length=kv.length+1→∃M PM B PB,Fr R ks kv M PM∧Suf R kb vb B PB∧L=M++B∧P=PM++PB
 | [],_,_,_,_,_,_,e=>by simp at e
 | [q],[],kb,vb,L,P,h,_=>by
  simp only[List.cons_append,List.nil_append] at h;obtain⟨M,Q,B,PB,h1,h2,rfl,rfl⟩:=h.inv1
  exact⟨_,_,_,_,.one h1,h2,rfl,rfl⟩
 | [_],_ :: _,_,_,_,_,_,e=>by simp at e
 | _ :: _ :: _,[],_,_,_,_,_,e=>by simp at e
 | q :: q2 :: ks,k :: kv,kb,vb,L,P,h,e=>by
  simp only[List.cons_append] at h;obtain⟨M1,Q1,L1,P1,h1,h2,rfl,rfl⟩:=h.inv;obtain⟨M,PM,B,PB,g1,g2,rfl,rfl⟩:=Fr.cutr (ks:=q2 :: ks) h2 (by simpa using e);exact⟨_,_,B,PB,.cons h1 g1,g2,by simp,by simp⟩
theorem Fr.focus (h:Fr R (ka++ks++kb) (va++kv++vb) L P) (h1:va.length=ka.length) (h2:ks.length=kv.length+1) :
  ∃A PA M PM B PB,Pre R ka va A PA∧Fr R ks kv M PM∧Suf R kb vb B PB∧L=A++M++B∧P=PA++PM++PB:=by
 rw[List.append_assoc,List.append_assoc] at h;obtain⟨A,PA,M',PM',g1,g2,rfl,rfl⟩:=Fr.cutl h h1;obtain⟨M,PM,B,PB,g3,g4,rfl,rfl⟩:=Fr.cutr g2 h2;exact⟨A,PA,M,PM,B,PB,g1,g3,g4,by simp,by simp⟩
theorem Fr.build (h1:Pre R ka va A PA) (h2:Fr R ks kv M PM) (h3:Suf R kb vb B PB):Fr R (ka++ks++kb) (va++kv++vb) (A++M++B) (PA++PM++PB):=by
 have:=h1.join (h3.join h2);simpa [List.append_assoc] using this
theorem Fr.mono (h:Fr R ks kv L P) (hR:∀q M Q,R q M Q→(∀i∈Q,i∈P)→R' q M Q):Fr R' ks kv L P:=by
 induction h with
 | one h1=>exact .one (hR _ _ _ h1 fun _ hi=>hi)
 | cons h1 _ ih=>exact .cons (hR _ _ _ h1 fun i hi=>List.mem_append_left _ hi) (ih fun q M Q h hQ=>hR q M Q h fun i hi=>List.mem_append_right _ (hQ i hi))
theorem Pre.mono (h:Pre R ks kv L P) (hR:∀q M Q,R q M Q→(∀i∈Q,i∈P)→R' q M Q):Pre R' ks kv L P:=by
 induction h with
 | nil=>exact .nil
 | cons h1 _ ih=>exact .cons (hR _ _ _ h1 fun i hi=>List.mem_append_left _ hi) (ih fun q M Q h hQ=>hR q M Q h fun i hi=>List.mem_append_right _ (hQ i hi))
theorem Suf.mono (h:Suf R ks kv L P) (hR:∀q M Q,R q M Q→(∀i∈Q,i∈P)→R' q M Q):Suf R' ks kv L P:=by
 induction h with
 | nil=>exact .nil
 | cons h1 _ ih=>exact .cons (hR _ _ _ h1 fun i hi=>List.mem_append_left _ hi) (ih fun q M Q h hQ=>hR q M Q h fun i hi=>List.mem_append_right _ (hQ i hi))
theorem Pre.last (h:Pre R ka va A PA) (hv:va≠[]):∃A',A=A'++[va.getLast hv]:=by
 induction h with
 | nil=>exact absurd rfl hv
 | @cons q M P k ks kv L P' h1 h2 ih=>
  cases kv with
  | nil=>
   cases h2 with
   | nil=>exact⟨M,by simp⟩
  | cons k2 kv2=>
   obtain⟨A',e⟩:=ih (by simp);exact⟨M++k :: A',by rw[List.getLast_cons (by simp)];simp[e]⟩
theorem Suf.head (h:Suf R kb vb B PB) {k:KV} {vb':List KV} (hv:vb=k :: vb'):∃B',B=k :: B':=by
 cases h with
 | nil=>cases hv
 | cons h1 h2=>cases hv;exact⟨_,rfl⟩
theorem Fr.pages (h:Fr R ks kv L P) (hR:∀q M Q,R q M Q→Q.length≤M.length):P.length+kv.length≤L.length:=by
 induction h with
 | one h1=>have:=hR _ _ _ h1;simpa using this
 | cons h1 _ ih=>have:=hR _ _ _ h1;simp;omega
theorem Fr.mem (h:Fr R ks kv L P) {q:Nat} (hq:q∈ks):∃M Q,R q M Q∧∀i∈Q,i∈P:=by
 induction h with
 | one h1=>simp at hq;subst hq;exact⟨_,_,h1,fun _ h=>h⟩
 | cons h1 _ ih=>
  rcases List.mem_cons.1 hq with rfl | e
  ·exact⟨_,_,h1,fun i hi=>List.mem_append_left _ hi⟩
  ·obtain⟨M,Q,g1,g2⟩:=ih e
   exact⟨M,Q,g1,fun i hi=>List.mem_append_right _ (g2 i hi)⟩
end
def nk (rd:Nat→Option Nd) (q:Nat):Nat:=match rd q with | some nd=>nd.keys.length | none=>0
theorem nk_eq {rd:Nat→Option Nd} {q:Nat} {nd:Nd} (h:rd q=some nd):nk rd q=nd.keys.length:=by unfold nk;rw[h]
def Tr (rd:Nat→Option Nd) (h:Nat):Nat→Nat→List KV→List Nat→Prop
 | 0,q,L,P=>∃nd,rd q=some nd∧nd.kids=[]∧nd.vals.length=nd.keys.length∧nd.keys.length≤2*h - 1∧L=nd.kvs∧P=[q]
 | d+1,q,L,P=>∃nd P',rd q=some nd∧nd.vals.length=nd.keys.length∧nd.keys.length≤2*h - 1∧1≤nd.keys.length∧Fr (fun q L P=>Tr rd h d q L P∧h - 1≤nk rd q) nd.kids nd.kvs L P'∧P=q :: P'
def Tc (rd:Nat→Option Nd) (h d q:Nat) (L:List KV) (P:List Nat):Prop:=Tr rd h d q L P∧h - 1≤nk rd q
section
variable {rd rd':Nat→Option Nd} {h d q:Nat} {L:List KV} {P:List Nat}
theorem Tr.node (t:Tr rd h d q L P):∃nd,rd q=some nd∧nd.vals.length=nd.keys.length∧nd.keys.length≤2*h - 1∧(nd.kids.length=0↔d=0):=by
 cases d with
 | zero=>obtain⟨nd,h1,h2,h3,h4, -⟩:=t;exact⟨nd,h1,h3,h4,by simp[h2]⟩
 | succ d=>obtain⟨nd,P',h1,h2,h3,h4,h5, -⟩:=t;exact⟨nd,h1,h2,h3,by have:=h5.len;constructor<;>intro e<;>omega⟩
theorem Tr.root_mem (t:Tr rd h d q L P):q∈P:=by
 cases d with
 | zero=>obtain⟨nd, -, -, -, -, -,rfl⟩:=t;simp
 | succ d=>obtain⟨nd,P', -, -, -, -, -,rfl⟩:=t;simp
theorem Tr.frame:∀ {d q L P},Tr rd h d q L P→(∀i∈P,rd' i=rd i)→Tr rd' h d q L P
 | 0,q,L,P,⟨nd,h1,h2,h3,h4,h5,h6⟩,hf=>⟨nd,(hf q (by simp[h6])).trans h1,h2,h3,h4,h5,h6⟩
 | d+1,q,L,P,⟨nd,P',h1,h2,h3,h4,h5,h6⟩,hf=>by
  subst h6;refine⟨nd,P',(hf q (by simp)).trans h1,h2,h3,h4,h5.mono fun c M Q hc hQ=>?_,rfl⟩;have hf':∀i∈Q,rd' i=rd i:=fun i hi=>hf i (List.mem_cons_of_mem _ (hQ i hi));refine⟨Tr.frame hc.1 hf',?_⟩;have:nk rd' c=nk rd c:=by unfold nk;rw[hf' c hc.1.root_mem]
  rw[this];exact hc.2
theorem Tc.frame (t:Tc rd h d q L P) (hf:∀i∈P,rd' i=rd i):Tc rd' h d q L P:=by
 refine⟨t.1.frame hf,?_⟩;have:nk rd' q=nk rd q:=by unfold nk;rw[hf q t.1.root_mem]
 rw[this];exact t.2
theorem kvs_len {nd:Nd} (hv:nd.vals.length=nd.keys.length):nd.kvs.length=nd.keys.length:=by unfold Nd.kvs;rw[List.length_zip];omega
theorem kvs_keys {nd:Nd} (hv:nd.vals.length=nd.keys.length):nd.kvs.map (·.1)=nd.keys:=by unfold Nd.kvs;exact List.map_fst_zip (by omega)
theorem Tc.pages (hh:2≤h):∀ {d q L P},Tc rd h d q L P→P.length≤L.length
 | 0,q,L,P,⟨⟨nd,h1,h2,h3,h4,h5,h6⟩,h7⟩=>by
  subst h5 h6;rw[nk_eq h1] at h7;rw[kvs_len h3];simp only[List.length_singleton]
  omega
 | d+1,q,L,P,⟨⟨nd,P',h1,h2,h3,h4,h5,h6⟩,h7⟩=>by
  subst h6;have:=h5.pages fun c M Q hc=>Tc.pages hh hc;rw[kvs_len h2] at this;simp only[List.length_cons];omega
theorem Tr.pages (hh:2≤h) (t:Tr rd h d q L P):P.length≤L.length+1:=by
 cases d with
 | zero=>obtain⟨nd,h1,h2,h3,h4,h5,rfl⟩:=t;simp
 | succ d=>
  obtain⟨nd,P',h1,h2,h3,h4,h5,rfl⟩:=t;have:=h5.pages fun c M Q hc=>Tc.pages hh hc;simp only[List.length_cons];omega
end
def Srt (L:List KV):Prop:=L.Pairwise fun a b=>a.1< b.1
theorem Srt.sub {L M:List KV} (h:Srt L) (hs:M.Sublist L):Srt M:=List.Pairwise.sublist hs h
theorem srt_app {A B:List KV}:Srt (A++B)↔Srt A∧Srt B∧∀a∈A,∀b∈B,a.1< b.1:=List.pairwise_append
theorem Fr.sides {R:Nat→List KV→List Nat→Prop} {ka kb:List Nat} {va vb M A B:List KV} {PA PB:List Nat} {k:Int} (h1:Pre R ka va A PA) (h3:Suf R kb vb B PB) (hs:Srt (A++M++B)) (ha:∀x∈va,x.1< k) :
  (∀x∈A,x.1< k)∧((∀x∈vb,k< x.1)→∀x∈B,k< x.1):=by
 constructor
 ·by_cases hv:va=[]
  ·subst hv
   cases h1
   intro x hx;cases hx
  ·obtain⟨A',rfl⟩:=h1.last hv
   have hl:=ha _ (List.getLast_mem hv);intro x hx;rcases List.mem_append.1 hx with e | e
   ·have h4:=(srt_app.1 (srt_app.1 (srt_app.1 hs).1).1).2.2 x e _ (List.mem_singleton.2 rfl)
    omega
   ·simp only[List.mem_singleton] at e;rw[e];exact hl
 ·intro hb x hx
  cases vb with
  | nil=>cases h3;cases hx
  | cons k0 vb'=>
   obtain⟨B',rfl⟩:=h3.head rfl;have hl:=hb k0 List.mem_cons_self;rcases List.mem_cons.1 hx with rfl | e
   ·exact hl
   ·have h4:=(List.pairwise_cons.1 (srt_app.1 hs).2.1).1 x e
    omega
def putL (L:List KV) (k v:Int):List KV:=L.filter (fun x=>decide (x.1< k))++(k,v) :: L.filter (fun x=>decide (k< x.1))
def delL (L:List KV) (k:Int):List KV:=L.filter fun x=>decide (x.1≠k)
def getK (L:List KV) (k:Int):Option Int:=(L.find? fun x=>decide (x.1=k)).map (·.2)
theorem filter_all {α:Type} {p:α→Bool} {l:List α} (h:∀a∈l,p a=true):l.filter p=l:=List.filter_eq_self.2 h
theorem filter_none {α:Type} {p:α→Bool} {l:List α} (h:∀a∈l,p a=false):l.filter p=[]:=List.filter_eq_nil_iff.2 fun a ha=>by simp[h a ha]
theorem putL_mid {A M B:List KV} {k v:Int} (hA:∀x∈A,x.1< k) (hB:∀x∈B,k< x.1):putL (A++M++B) k v=A++putL M k v++B:=by
 unfold putL;simp only[List.filter_append]
 rw[filter_all (l:=A) (p:=fun x=>decide (x.1< k)) fun a ha=>by simp[hA a ha],filter_none (l:=B) (p:=fun x=>decide (x.1< k)) fun b hb=>by have:=hB b hb;simp;omega,
  filter_none (l:=A) (p:=fun x=>decide (k< x.1)) fun a ha=>by have:=hA a ha;simp;omega,filter_all (l:=B) (p:=fun x=>decide (k< x.1)) fun b hb=>by simp[hB b hb]]
 simp
theorem delL_mid {A M B:List KV} {k:Int} (hA:∀x∈A,x.1< k) (hB:∀x∈B,k< x.1):delL (A++M++B) k=A++delL M k++B:=by
 unfold delL;simp only[List.filter_append];rw[filter_all (l:=A) fun a ha=>by have:=hA a ha;simp;omega,filter_all (l:=B) fun b hb=>by have:=hB b hb;simp;omega]
theorem getK_mid {A M B:List KV} {k:Int} (hA:∀x∈A,x.1< k) (hB:∀x∈B,k< x.1):getK (A++M++B) k=getK M k:=by
 unfold getK;have e1:A.find? (fun x=>decide (x.1=k))=none:=List.find?_eq_none.2 fun a ha=>by have:=hA a ha;simp;omega
 have e2:B.find? (fun x=>decide (x.1=k))=none:=List.find?_eq_none.2 fun b hb=>by have:=hB b hb;simp;omega
 rw[List.append_assoc,List.find?_append,List.find?_append,e1,e2];simp
end
end Go.Proofs.YtpkkcicaeldodaaGreatDoor
