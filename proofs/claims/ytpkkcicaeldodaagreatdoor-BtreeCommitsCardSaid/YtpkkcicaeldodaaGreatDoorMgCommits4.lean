/- Texts 4 of 8 that the proof of Commits stands on. -/
import Derived.Test.YtpkkcicaeldodaaGreatDoorMgCommits3
import Derived.Sort.LoopGhostIn
import Derived.BigGuardIn
import Derived.Maps.OwnIn
import Derived.Deep.LoopGhost
import Derived.Test.YtpkkcicaeldodaaGreatDoorRows
import Derived.Shelf.Sort.Plain
import Derived.Lib.SortBridge
import Derived.Lib.AppendZerosOnto
set_option linter.unusedSimpArgs false
set_option linter.unusedVariables false
set_option maxRecDepth 100000
set_option maxHeartbeats 6400000
open Go.Proofs.Tryz
namespace Go.Proofs.YtpkkcicaeldodaaGreatDoor
section
open Go.RowKit Go.Maps
def Gp.fresh (D:Dk):Gp:= { D:=D,epoch:=0,row:=D.sz / 2,pages:=List.replicate (tabN D.n D.sz) 0,table:=List.replicate (capN D.n D.sz) 0,free:=trn (trn (full D.n) 0) 1,op:=none,down:=false }
structure NewInts (w0 w:World) (g n:Nat):Prop where
 blk:Blk w g 3 (nv (List.replicate n 0)).toArray
 new:w0.heap.size≤g
structure NewPool (w0 w:World) (b n:Nat) (A:Option Addr) (c:Nat):Prop where
 p:PIn w b (full n) A c
 new:∀j,PF b A j→w0.heap.size≤j
theorem NewInts.grew {w0 w w':World} {g n:Nat} (h:NewInts w0 w g n) (hg:Grew w w'):NewInts w0 w' g n:=⟨h.blk.grew hg,h.new⟩
theorem NewPool.grew {w0 w w':World} {b n c:Nat} {A:Option Addr} (h:NewPool w0 w b n A c) (hg:Grew w w'):NewPool w0 w' b n A c:=⟨h.p.grew hg,h.new⟩
structure OpenIn (w0 w:World) (p d row T C g1 g2 b n:Nat) (A:Option Addr) (c:Nat):Prop where
 blk:Blk w p 101 #[.pointer (some ⟨d,0,none⟩),.int .i64 0,.int .i64 row,.slice (some ⟨g1,0,none⟩) T T,.slice (some ⟨g2,0,none⟩) C C,.pointer (some ⟨b,0,none⟩),.pointer none,.bool false]
 t1:NewInts w0 w g1 T
 t2:NewInts w0 w g2 C
 ne:g1≠g2
 pool:NewPool w0 w b n A c
 grew:Grew w0 w
 new:w0.heap.size≤p
def OpenJ (w0:World) (d row T C n:Nat) (v:Value) (w:World):Prop:=∃p g1 g2 b A c,v= .pointer (some ⟨p,0,none⟩)∧OpenIn w0 w p d row T C g1 g2 b n A c
theorem openJ_mk {w0 w:World} {d row T C g1 g2 b n c:Nat} {A:Option Addr} {r:Int} (hr:r=(row:Int)) (h1:NewInts w0 w g1 T) (h2:NewInts w0 w g2 C) (hne:g1≠g2) (hp:NewPool w0 w b n A c) (hg:Grew w0 w) :
  OpenJ w0 d row T C n (.pointer (some ⟨w.heap.size,0,none⟩)) (w.alloc (.cells #[.pointer (some ⟨d,0,none⟩),.int .i64 0,.int .i64 r,.slice (some ⟨g1,0,none⟩) T T,.slice (some ⟨g2,0,none⟩) C C,.pointer (some ⟨b,0,none⟩),.pointer none,.bool false] 101)):=by
 subst hr;exact⟨_,g1,g2,b,A,c,rfl,Blk.new _ _ _,h1.grew ((Chg.refl _ _).alloc _),h2.grew ((Chg.refl _ _).alloc _),hne,hp.grew ((Chg.refl _ _).alloc _),hg.alloc _,hg.size⟩
def mkd (n:Nat):Nat→List Bool
 | 0=>full n
 | k+1=>trn (mkd n k) k
theorem mkd_len (n:Nat):∀k,(mkd n k).length=n
 | 0=>full_len n
 | k+1=>by rw[mkd,trn,List.length_set];exact mkd_len n k
theorem mkd_at (n:Nat):∀k j,k≤n→(mkd n k).getD j false=(decide (k≤j) && decide (j< n))
 | 0,j,_=>by rw[mkd,full_at];simp
 | k+1,j,hk=>by
  rw[mkd,trn,getD_set _ _ _ _ (by rw[mkd_len];omega),mkd_at n k k (by omega),mkd_at n k j (by omega)];by_cases e:j=k
  ·subst e;simp;omega
  ·rw[if_neg e]
   by_cases h1:k≤j
   ·simp[h1,show k+1≤j by omega]
   ·simp[h1,show¬k+1≤j by omega]
theorem mkd_mark (n k:Nat) (hk:k< n):toL (mkd n k) (k:Int) false=(mkd n (k+1),0):=by
 unfold toL;rw[if_neg (by rw[mkd_len];omega),Int.toNat_natCast,mkd_at n k k (by omega),if_neg (by simp;omega)];rfl
theorem own_new {w:World} {g n:Nat} {t:TypeId} {cs:Array Value} (h:Blk w g t cs) (hn:cs.size=n) (hm:n≤maxLen):w.ownsRow 0 t 1 (.slice (some ⟨g,0,none⟩) n n) n cs.toList:=
 ⟨by simp[hn],.inr ⟨g,n,cs,rfl,Nat.zero_le _,h,Nat.le_refl _,hm,by simp[hn],by rw[Nat.mul_one,←hn,←Array.length_toList,List.take_length]⟩⟩
theorem blk_ne {w:World} {g g':Nat} {t t':TypeId} {cs cs':Array Value} (h:Blk w g t cs) (h':Blk w g' t' cs') (hne:t≠t'):g≠g':=by
 rintro rfl;unfold Blk at h h';rw[h] at h';injection h' with h';injection h' with h1 h2;exact hne h2
theorem pf_ne {w:World} {b c g:Nat} {x:List Bool} {A:Option Addr} {t:TypeId} {cs:Array Value} (h:PIn w b x A c) (hg:Blk w g t cs) (h1:t≠152) (h2:t≠153):¬PF b A g:=by
 rintro(rfl | ⟨a,rfl,rfl⟩)
 ·have:=h.blk
  unfold Blk at this hg;rw[this] at hg
  cases hg
  exact h1 rfl
 ·exact own_blk_ne h.own hg (Ne.symm h2) rfl
theorem gfresh_mk {w0 w:World} {d p g1 g2 b c:Nat} {A:Option Addr} {F:Nat→Prop} {D:Dk} (hd:DS w d F D) (hF0:∀j,F j→j< w0.heap.size) (h0:¬F 0) (hpos:0< w0.heap.size) (hT:TabAt 0 tab w) (hn:D.n≤4096)
  (hb:Blk w p 101 #[.pointer (some ⟨d,0,none⟩),.int .i64 0,.int .i64 (D.sz / 2:Nat),.slice (some ⟨g1,0,none⟩) (tabN D.n D.sz) (tabN D.n D.sz),.slice (some ⟨g2,0,none⟩) (capN D.n D.sz) (capN D.n D.sz),.pointer (some ⟨b,0,none⟩),.pointer none,.bool false])
  (h1:Blk w g1 3 (nv (List.replicate (tabN D.n D.sz) 0)).toArray) (h2:Blk w g2 3 (nv (List.replicate (capN D.n D.sz) 0)).toArray) (hne:g1≠g2) (hp:PIn w b (mkd D.n 2) A c)
  (n0:w0.heap.size≤p) (n1:w0.heap.size≤g1) (n2:w0.heap.size≤g2) (n3:∀j,PF b A j→w0.heap.size≤j) :
  ∃F',GS w p F' (Gp.fresh D)∧∀j,F' j→F j∨w0.heap.size≤j:=by
 classical
 have hC:capN D.n D.sz≤4096:=by unfold capN;split<;>omega
 have hT64:tabN D.n D.sz≤64:=by have:=tabs_le (D.sz / 2) (D.n - 2) D.sz 64 0;unfold tabN;omega
 have d1:p≠g1:=blk_ne hb h1 (by decide);have d2:p≠g2:=blk_ne hb h2 (by decide);have d3:=pf_ne hp hb (by decide) (by decide);have d4:=pf_ne hp h1 (by decide) (by decide);have d5:=pf_ne hp h2 (by decide) (by decide)
 obtain⟨L,hL⟩:∃L:Nat→Nat,L=fun j=>if j=p then 1 else if j=g1 then 4 else if j=g2 then 5 else if PF b A j then 3 else if F j then 2 else 0:=⟨_,rfl⟩;have l1:L p=1:=by rw[hL];simp
 have l4:L g1=4:=by rw[hL];simp[Ne.symm d1]
 have l5:L g2=5:=by rw[hL];simp[Ne.symm d2,Ne.symm hne]
 have l3:∀j,PF b A j→L j=3:=fun j hj=>by
  have e1:j≠p:=fun e=>d3 (e▸hj);have e2:j≠g1:=fun e=>d4 (e▸hj);have e3:j≠g2:=fun e=>d5 (e▸hj);rw[hL];simp[e1,e2,e3,hj]
 have l2:∀j,L j=2↔F j:=fun j=>by
  have hlt:F j→j< w0.heap.size:=hF0 j;by_cases e1:j=p
  ·subst e1;rw[l1];exact⟨fun e=>by omega,fun e=>by have:=hlt e;omega⟩
  by_cases e2:j=g1
  ·subst e2;rw[l4];exact⟨fun e=>by omega,fun e=>by have:=hlt e;omega⟩
  by_cases e3:j=g2
  ·subst e3;rw[l5];exact⟨fun e=>by omega,fun e=>by have:=hlt e;omega⟩
  by_cases e4:PF b A j
  ·rw[l3 j e4];exact⟨fun e=>by omega,fun e=>by have:=hlt e;have:=n3 j e4;omega⟩
  ·rw[hL];by_cases e5:F j<;>simp[e1,e2,e3,e4,e5]
 have l0:∀j,L j≠0→F j∨(w0.heap.size≤j∧j< w.heap.size):=fun j hj=>by
  by_cases e1:j=p
  ·subst e1;exact .inr ⟨n0,hb.lt⟩
  by_cases e2:j=g1
  ·subst e2;exact .inr ⟨n1,h1.lt⟩
  by_cases e3:j=g2
  ·subst e3;exact .inr ⟨n2,h2.lt⟩
  by_cases e4:PF b A j
  ·exact .inr ⟨n3 j e4,hp.lt j e4⟩
  by_cases e5:F j
  ·exact .inl e5
  ·rw[hL] at hj;simp[e1,e2,e3,e4,e5] at hj
 refine⟨fun j=>L j≠0,⟨L,d,b,A,c,_,_,none,⟨hb,l1,?_,hp,l3,?_,fun j hj=>?_,?_,fun j hj=>?_,rfl,fun j hj=>?_,?_,hT⟩,fun _=>Iff.rfl⟩,fun j hj=>(l0 j hj).imp id fun e=>e.1⟩
 ·rw[show(fun j=>L j=2)=F from funext fun j=>propext (l2 j)]
  exact hd
 ·have:=own_new (n:=tabN D.n D.sz) h1 (by simp[nv]) (by simp only[maxLen];omega)
  simpa [Gp.fresh] using this
 ·have:g1=j:=by simpa [Value.ownBlock] using hj
  rw[←this];exact l4
 ·have:=own_new (n:=capN D.n D.sz) h2 (by simp[nv]) (by simp only[maxLen];omega)
  simpa [Gp.fresh] using this
 ·have:g2=j:=by simpa [Value.ownBlock] using hj
  rw[←this];exact l5
 ·rcases l0 j hj with e | e
  ·exact hd.lt j e
  ·exact e.2
 ·by_cases e:L 0=0
  ·exact e
  ·rcases l0 0 e with e | e
   ·exact absurd e h0
   ·omega
theorem gmade_mk {ep:Nat} {pg tbl:List Nat} {fe:List Bool} {w0 w:World} {d p g1 g2 b c:Nat} {A:Option Addr} {F:Nat→Prop} {D:Dk} (hd:DS w d F D) (hF0:∀j,F j→j< w0.heap.size) (h0:¬F 0) (hpos:0< w0.heap.size) (hT:TabAt 0 tab w) (hpm:pg.length≤100000) (htm:tbl.length≤100000)
  (hb:Blk w p 101 #[.pointer (some ⟨d,0,none⟩),.int .i64 (ep:Nat),.int .i64 (D.sz / 2:Nat),.slice (some ⟨g1,0,none⟩) pg.length pg.length,.slice (some ⟨g2,0,none⟩) tbl.length tbl.length,.pointer (some ⟨b,0,none⟩),.pointer none,.bool false])
  (h1:Blk w g1 3 (nv pg).toArray) (h2:Blk w g2 3 (nv tbl).toArray) (hne:g1≠g2) (hp:PIn w b fe A c)
  (n0:w0.heap.size≤p) (n1:w0.heap.size≤g1) (n2:w0.heap.size≤g2) (n3:∀j,PF b A j→w0.heap.size≤j) :
  ∃F',GS w p F' ⟨D,ep,D.sz / 2,pg,tbl,fe,none,false⟩∧∀j,F' j→F j∨w0.heap.size≤j:=by
 classical
 have d1:p≠g1:=blk_ne hb h1 (by decide);have d2:p≠g2:=blk_ne hb h2 (by decide);have d3:=pf_ne hp hb (by decide) (by decide);have d4:=pf_ne hp h1 (by decide) (by decide);have d5:=pf_ne hp h2 (by decide) (by decide)
 obtain⟨L,hL⟩:∃L:Nat→Nat,L=fun j=>if j=p then 1 else if j=g1 then 4 else if j=g2 then 5 else if PF b A j then 3 else if F j then 2 else 0:=⟨_,rfl⟩;have l1:L p=1:=by rw[hL];simp
 have l4:L g1=4:=by rw[hL];simp[Ne.symm d1]
 have l5:L g2=5:=by rw[hL];simp[Ne.symm d2,Ne.symm hne]
 have l3:∀j,PF b A j→L j=3:=fun j hj=>by
  have e1:j≠p:=fun e=>d3 (e▸hj);have e2:j≠g1:=fun e=>d4 (e▸hj);have e3:j≠g2:=fun e=>d5 (e▸hj);rw[hL];simp[e1,e2,e3,hj]
 have l2:∀j,L j=2↔F j:=fun j=>by
  have hlt:F j→j< w0.heap.size:=hF0 j;by_cases e1:j=p
  ·subst e1;rw[l1];exact⟨fun e=>by omega,fun e=>by have:=hlt e;omega⟩
  by_cases e2:j=g1
  ·subst e2;rw[l4];exact⟨fun e=>by omega,fun e=>by have:=hlt e;omega⟩
  by_cases e3:j=g2
  ·subst e3;rw[l5];exact⟨fun e=>by omega,fun e=>by have:=hlt e;omega⟩
  by_cases e4:PF b A j
  ·rw[l3 j e4];exact⟨fun e=>by omega,fun e=>by have:=hlt e;have:=n3 j e4;omega⟩
  ·rw[hL];by_cases e5:F j<;>simp[e1,e2,e3,e4,e5]
 have l0:∀j,L j≠0→F j∨(w0.heap.size≤j∧j< w.heap.size):=fun j hj=>by
  by_cases e1:j=p
  ·subst e1;exact .inr ⟨n0,hb.lt⟩
  by_cases e2:j=g1
  ·subst e2;exact .inr ⟨n1,h1.lt⟩
  by_cases e3:j=g2
  ·subst e3;exact .inr ⟨n2,h2.lt⟩
  by_cases e4:PF b A j
  ·exact .inr ⟨n3 j e4,hp.lt j e4⟩
  by_cases e5:F j
  ·exact .inl e5
  ·rw[hL] at hj;simp[e1,e2,e3,e4,e5] at hj
 refine⟨fun j=>L j≠0,⟨L,d,b,A,c,_,_,none,⟨hb,l1,?_,hp,l3,?_,fun j hj=>?_,?_,fun j hj=>?_,rfl,fun j hj=>?_,?_,hT⟩,fun _=>Iff.rfl⟩,fun j hj=>(l0 j hj).imp id fun e=>e.1⟩
 ·rw[show(fun j=>L j=2)=F from funext fun j=>propext (l2 j)]
  exact hd
 ·have:=own_new (n:=pg.length) h1 (by simp[nv]) (by simp only[maxLen];omega)
  simpa using this
 ·have:g1=j:=by simpa [Value.ownBlock] using hj
  rw[←this];exact l4
 ·have:=own_new (n:=tbl.length) h2 (by simp[nv]) (by simp only[maxLen];omega)
  simpa using this
 ·have:g2=j:=by simpa [Value.ownBlock] using hj
  rw[←this];exact l5
 ·rcases l0 j hj with e | e
  ·exact hd.lt j e
  ·exact e.2
 ·by_cases e:L 0=0
  ·exact e
  ·rcases l0 0 e with e | e
   ·exact absurd e h0
   ·omega
structure LoJ (w0 W:World) (p d row g1 g2 b T C ep:Nat) (pg tbl:List Nat) (fe:List Bool) (A:Option Addr) (c:Nat):Prop where
 blk:Blk W p 101 #[.pointer (some ⟨d,0,none⟩),.int .i64 (ep:Nat),.int .i64 (row:Nat),.slice (some ⟨g1,0,none⟩) T T,.slice (some ⟨g2,0,none⟩) C C,.pointer (some ⟨b,0,none⟩),.pointer none,.bool false]
 t1:Blk W g1 3 (nv pg).toArray
 t2:Blk W g2 3 (nv tbl).toArray
 pool:PIn W b fe A c
 ne:g1≠g2
 new:w0.heap.size≤p∧w0.heap.size≤g1∧w0.heap.size≤g2∧∀j,PF b A j→w0.heap.size≤j
 gr:Grew w0 W
end
section
open Go.RowKit Go.Maps
theorem gopen_gen (d:Nat) (F:Nat→Prop) (D:Dk) (w:World) (Q:Nat→List Nat→List Bool→Prop) (ep:Nat) (pg:List Nat) (h:DS w d F D) (hd:D.down=false) (hT:TabAt 0 tab w) (h0:¬F 0) (hn:8≤D.n) (hz:64≤D.sz)
  (hp:∀W,DS W d F D→Calls prog 81 #[.pointer (some ⟨d,0,none⟩)] W fun e w'=>Grew W w'∧((ep=0∧e= .returned (.tuple #[.agg #[.int .i64 0,.slice none 0 0],.int .i64 14]))∨(1≤ep∧∃A c,e= .returned (.tuple #[.agg #[.int .i64 (ep:Nat),.slice A pg.length c],.int .i64 0])∧Sl w' 1 A pg.length (nv pg)∧∀a,A=some a→W.heap.size≤a.block)))
  (hpl:1≤ep→pg.length=tabN D.n D.sz∧0< pg.length∧Q 0 (List.replicate (capN D.n D.sz) 0) (mkd D.n 2)) (hep:ep≤1099511627776)
  (hst:∀ (p g1 g2 b:Nat) (A:Option Addr) (c k:Nat) (tbl:List Nat) (fe:List Bool) (w0 W:World),LoJ w0 W p d (D.sz / 2) g1 g2 b pg.length (capN D.n D.sz) ep pg tbl fe A c→DS w0 d F D→Q k tbl fe→k< pg.length→
   Calls prog 82 #[.pointer (some ⟨p,0,none⟩),.int .i64 k] W fun e w'=>e= .returned (.int .i64 0)∧∃tbl' fe',LoJ w0 w' p d (D.sz / 2) g1 g2 b pg.length (capN D.n D.sz) ep pg tbl' fe' A c∧Q (k+1) tbl' fe')
  (hQl:∀k tbl fe,Q k tbl fe→tbl.length=capN D.n D.sz) :
  Calls prog 33 #[.pointer (some ⟨d,0,none⟩)] w fun e w'=>∃p F',e= .returned (.tuple #[.pointer (some ⟨p,0,none⟩),.int .i64 0])∧((ep=0∧GS w' p F' (Gp.fresh D))∨(1≤ep∧∃tbl fe,Q pg.length tbl fe∧GS w' p F' ⟨D,ep,D.sz / 2,pg,tbl,fe,none,false⟩))∧Grew w w'∧∀j,F' j→F j∨w.heap.size≤j:=by
 have hsm:=h.sml;have a1:decide ((D.n:Int)< 8)=false:=decide_eq_false (by omega);have a2:decide ((D.sz:Int)< 64)=false:=decide_eq_false (by omega);have H:=yH (yA5 h hT hp hpl (yA hst hQl));clear h hT hp hpl hst hQl;go_enter func33,ntmps33
 go_wp2_with (first
  | (go_at_call 76;(refine(dsectors_any d F D _ H.out.1).mono ?_);rintro e w1 ⟨rfl,rfl⟩)
  | (go_at_call 77;(refine(dsize_any d F D _ H.out.1).mono ?_);rintro e w1 ⟨rfl,rfl⟩)
  | (go_at_call 78;(refine(places_any D.n D.sz _ hn hsm.2.1 hz hsm.2.2.2).mono ?_);rintro e w1 ⟨rfl,hg1⟩;have HG1:=yH hg1;clear hg1))
 have hT:=tabs_le (D.sz / 2) (D.n - 2) D.sz 64 0;have hT64:tabN D.n D.sz≤64:=by unfold tabN;omega
 have hC:capN D.n D.sz≤4096:=by unfold capN;split<;>omega
 have eq2:(D.sz:Int).tdiv 2=((D.sz / 2:Nat):Int):=by simp
 have ew2:IntKind.i64.wrap ((D.sz / 2:Nat):Int)=((D.sz / 2:Nat):Int):=wrap_nat (by omega);have ew3:IntKind.i64.wrap ((D.sz:Int) / 2)=((D.sz / 2:Nat):Int):=by have:=ew2;simpa using this
 have HG0:=yH (show Grew w1 w1.drew from(Chg.refl _ _).drew);clear hT;go_cut [6] (fun v wx=>OpenJ w1 d (D.sz / 2) (tabN D.n D.sz) (capN D.n D.sz) D.n v wx)
 case first=>
  refine wp_region_held_drew (S:=fun _=>True) (by kernel_rfl) trivial (fun _=>?_);refine Todo.out (is:=[0,1,4,6,8]) ?_
  repeat
   refine tkH (v:=?_) rfl (Or.inl ⟨by rfl,?_⟩) trivial ?_;rotate_left
   ·(intro w hSw;(try dsimp only at hSw);go_simp)<;>with_reducible rfl
   (try simp only[Act.put,lY])
  refine Todo.fin ?_;obtain⟨y5,hr5,hB5,hG5,hs5⟩:=make_ints (tabN D.n D.sz) (w1.drew) (by omega);obtain⟨y7,hr7,hB7,hG7,hs7⟩:=make_ints (capN D.n D.sz) (w1.drew) (by omega);refine wpAnyH_ready (rs:=[2,5,7]) (by kernel_rfl) (by simp) ?_;refine(AllReadyH.cons rfl (fun K hK=>?_) (AllReadyH.cons rfl (fun K hK=>?_) (AllReadyH.cons rfl (fun K hK=>?_) AllReadyH.nil)))
  case' _=>
   go_simp;refine(dsize_any d F D _ (H.out.1.grew (Grew.trans HG1.out HG0.out))).mono ?_;rintro e u2 ⟨rfl,rfl⟩;refine hK.out _ _ trivial (fun _=>?_);clear hK K;(try simp only[Act.put,lY])
   clear hr5 hB5 hG5 hs5 y5 hr7 hB7 hG7 hs7 y7;refine tkH1 (i:=3) (v:=?_) rfl (Or.inl ⟨by rfl,?_⟩) trivial ?_;rotate_left
   ·(intro w hSw;(try dsimp only at hSw);go_simp)<;>with_reducible rfl
   (try simp only[Act.put,lY])
   obtain⟨y5,hr5,hB5,hG5,hs5⟩:=make_ints (tabN D.n D.sz) (w1.drew) (by omega);obtain⟨y7,hr7,hB7,hG7,hs7⟩:=make_ints (capN D.n D.sz) (w1.drew) (by omega);refine wpAnyH_ready (rs:=[5,7,9]) (by kernel_rfl) (by simp) ?_;refine(AllReadyH.cons rfl (fun K hK=>?_) (AllReadyH.cons rfl (fun K hK=>?_) (AllReadyH.cons rfl (fun K hK=>?_) AllReadyH.nil)))
   case' _=>
    go_simp;refine hK.out _ _ trivial (fun _=>?_);clear hK K;(try simp only[Act.put,lY])
    have HQ5:=yH (show NewInts w1 y5 (w1.drew).heap.size (tabN D.n D.sz) from⟨hB5,HG0.out.size⟩);have HLT5:=yH (show(w1.drew).heap.size< y5.heap.size from HQ5.out.1.lt);have HG5:=yH (Grew.trans HG0.out hG5);clear hr5 hB5 hG5 hs5 hr7 hB7 hG7 hs7 y7;obtain⟨y7,hr7,hB7,hG7,hs7⟩:=make_ints (capN D.n D.sz) (y5) (by omega)
    refine wpAnyH_ready (rs:=[7,9]) (by kernel_rfl) (by simp) ?_;refine(AllReadyH.cons rfl (fun K hK=>?_) (AllReadyH.cons rfl (fun K hK=>?_) AllReadyH.nil))
    case' _=>
     go_simp;refine hK.out _ _ trivial (fun _=>?_);clear hK K;(try simp only[Act.put,lY])
     have HQ5:=yH (HQ5.out.grew hG7);have HQ7:=yH (show NewInts w1 y7 (y5).heap.size (capN D.n D.sz) from⟨hB7,HG5.out.size⟩);have HD:=yH (show(w1.drew).heap.size≠(y5).heap.size from Nat.ne_of_lt HLT5.out);have HG7:=yH (Grew.trans HG5.out hG7);clear hr7 hB7 hG7 hs7;refine wpAnyH_ready (rs:=[9]) (by kernel_rfl) (by simp) ?_
     refine(AllReadyH.cons rfl (fun K hK=>?_) AllReadyH.nil);go_simp;refine(dsectors_any d F D _ (H.out.1.grew (Grew.trans HG1.out HG7.out))).mono ?_;rintro e u2 ⟨rfl,rfl⟩;refine hK.out _ _ trivial (fun _=>?_);clear hK K;(try simp only[Act.put,lY])
     refine wpAnyH_ready (rs:=[10]) (by kernel_rfl) (by simp) ?_;refine(AllReadyH.cons rfl (fun K hK=>?_) AllReadyH.nil);go_simp;refine(pnew_any D.n _ (by omega)).mono ?_;rintro e y10 ⟨A10,c10,rfl,hp10,hg10,hn10⟩;refine hK.out _ _ trivial (fun _=>?_);clear hK K;(try simp only[Act.put,lY])
     have HQ5:=yH (HQ5.out.grew hg10);have HQ7:=yH (HQ7.out.grew hg10);have HQ10:=yH (show NewPool w1 y10 (y7).heap.size D.n A10 c10 from⟨hp10,fun j hj=>Nat.le_trans HG7.out.size (hn10 j hj)⟩);have HG10:=yH (Grew.trans HG7.out hg10);clear hp10 hg10 hn10
    rotate_left
    case' _=>
     go_simp;refine(dsectors_any d F D _ (H.out.1.grew (Grew.trans HG1.out HG5.out))).mono ?_;rintro e u2 ⟨rfl,rfl⟩;refine hK.out _ _ trivial (fun _=>?_);clear hK K;(try simp only[Act.put,lY])
     clear hr7 hB7 hG7 hs7 y7;obtain⟨y7,hr7,hB7,hG7,hs7⟩:=make_ints (capN D.n D.sz) (y5) (by omega);refine wpAnyH_ready (rs:=[7,10]) (by kernel_rfl) (by simp) ?_;refine(AllReadyH.cons rfl (fun K hK=>?_) (AllReadyH.cons rfl (fun K hK=>?_) AllReadyH.nil))
     case' _=>
      go_simp;refine hK.out _ _ trivial (fun _=>?_);clear hK K;(try simp only[Act.put,lY])
      have HQ5:=yH (HQ5.out.grew hG7);have HQ7:=yH (show NewInts w1 y7 (y5).heap.size (capN D.n D.sz) from⟨hB7,HG5.out.size⟩);have HD:=yH (show(w1.drew).heap.size≠(y5).heap.size from Nat.ne_of_lt HLT5.out);have HG7:=yH (Grew.trans HG5.out hG7);clear hr7 hB7 hG7 hs7;refine wpAnyH_ready (rs:=[10]) (by kernel_rfl) (by simp) ?_
      refine(AllReadyH.cons rfl (fun K hK=>?_) AllReadyH.nil);go_simp;refine(pnew_any D.n _ (by omega)).mono ?_;rintro e y10 ⟨A10,c10,rfl,hp10,hg10,hn10⟩;refine hK.out _ _ trivial (fun _=>?_);clear hK K;(try simp only[Act.put,lY])
      have HQ5:=yH (HQ5.out.grew hg10);have HQ7:=yH (HQ7.out.grew hg10);have HQ10:=yH (show NewPool w1 y10 (y7).heap.size D.n A10 c10 from⟨hp10,fun j hj=>Nat.le_trans HG7.out.size (hn10 j hj)⟩);have HG10:=yH (Grew.trans HG7.out hg10);clear hp10 hg10 hn10
     rotate_left
     case' _=>
      go_simp;refine(pnew_any D.n _ (by omega)).mono ?_;rintro e y10 ⟨A10,c10,rfl,hp10,hg10,hn10⟩;refine hK.out _ _ trivial (fun _=>?_);clear hK K;(try simp only[Act.put,lY])
      have HQ5:=yH (HQ5.out.grew hg10);have HLT5:=yH (Nat.lt_of_lt_of_le HLT5.out hg10.size);have HQ10:=yH (show NewPool w1 y10 (y5).heap.size D.n A10 c10 from⟨hp10,fun j hj=>Nat.le_trans HG5.out.size (hn10 j hj)⟩);have HG10:=yH (Grew.trans HG5.out hg10);clear hp10 hg10 hn10;clear hr7 hB7 hG7 hs7 y7;obtain⟨y7,hr7,hB7,hG7,hs7⟩:=make_ints (capN D.n D.sz) (y10) (by omega)
      refine wpAnyH_ready (rs:=[7]) (by kernel_rfl) (by simp) ?_;refine(AllReadyH.cons rfl (fun K hK=>?_) AllReadyH.nil);go_simp;refine hK.out _ _ trivial (fun _=>?_);clear hK K;(try simp only[Act.put,lY])
      have HQ5:=yH (HQ5.out.grew hG7);have HQ10:=yH (HQ10.out.grew hG7);have HQ7:=yH (show NewInts w1 y7 (y10).heap.size (capN D.n D.sz) from⟨hB7,HG10.out.size⟩);have HD:=yH (show(w1.drew).heap.size≠(y10).heap.size from Nat.ne_of_lt HLT5.out);have HG7:=yH (Grew.trans HG10.out hG7);clear hr7 hB7 hG7 hs7
     rotate_left
    rotate_left 2
   rotate_left 3
   case' _=>
    go_simp;refine hK.out _ _ trivial (fun _=>?_);clear hK K;(try simp only[Act.put,lY])
    have HQ7:=yH (show NewInts w1 y7 (w1.drew).heap.size (capN D.n D.sz) from⟨hB7,HG0.out.size⟩);have HLT7:=yH (show(w1.drew).heap.size< y7.heap.size from HQ7.out.1.lt);have HG7:=yH (Grew.trans HG0.out hG7);clear hr7 hB7 hG7 hs7 hr5 hB5 hG5 hs5 y5;obtain⟨y5,hr5,hB5,hG5,hs5⟩:=make_ints (tabN D.n D.sz) (y7) (by omega)
    refine wpAnyH_ready (rs:=[5,9]) (by kernel_rfl) (by simp) ?_;refine(AllReadyH.cons rfl (fun K hK=>?_) (AllReadyH.cons rfl (fun K hK=>?_) AllReadyH.nil))
    case' _=>
     go_simp;refine hK.out _ _ trivial (fun _=>?_);clear hK K;(try simp only[Act.put,lY])
     have HQ7:=yH (HQ7.out.grew hG5);have HQ5:=yH (show NewInts w1 y5 (y7).heap.size (tabN D.n D.sz) from⟨hB5,HG7.out.size⟩);have HD:=yH (show(y7).heap.size≠(w1.drew).heap.size from Ne.symm (Nat.ne_of_lt HLT7.out));have HG5:=yH (Grew.trans HG7.out hG5);clear hr5 hB5 hG5 hs5;refine wpAnyH_ready (rs:=[9]) (by kernel_rfl) (by simp) ?_
     refine(AllReadyH.cons rfl (fun K hK=>?_) AllReadyH.nil);go_simp;refine(dsectors_any d F D _ (H.out.1.grew (Grew.trans HG1.out HG5.out))).mono ?_;rintro e u2 ⟨rfl,rfl⟩;refine hK.out _ _ trivial (fun _=>?_);clear hK K;(try simp only[Act.put,lY])
     refine wpAnyH_ready (rs:=[10]) (by kernel_rfl) (by simp) ?_;refine(AllReadyH.cons rfl (fun K hK=>?_) AllReadyH.nil);go_simp;refine(pnew_any D.n _ (by omega)).mono ?_;rintro e y10 ⟨A10,c10,rfl,hp10,hg10,hn10⟩;refine hK.out _ _ trivial (fun _=>?_);clear hK K;(try simp only[Act.put,lY])
     have HQ7:=yH (HQ7.out.grew hg10);have HQ5:=yH (HQ5.out.grew hg10);have HQ10:=yH (show NewPool w1 y10 (y5).heap.size D.n A10 c10 from⟨hp10,fun j hj=>Nat.le_trans HG5.out.size (hn10 j hj)⟩);have HG10:=yH (Grew.trans HG5.out hg10);clear hp10 hg10 hn10
    rotate_left
    case' _=>
     go_simp;refine(dsectors_any d F D _ (H.out.1.grew (Grew.trans HG1.out HG7.out))).mono ?_;rintro e u2 ⟨rfl,rfl⟩;refine hK.out _ _ trivial (fun _=>?_);clear hK K;(try simp only[Act.put,lY])
     clear hr5 hB5 hG5 hs5 y5;obtain⟨y5,hr5,hB5,hG5,hs5⟩:=make_ints (tabN D.n D.sz) (y7) (by omega);refine wpAnyH_ready (rs:=[5,10]) (by kernel_rfl) (by simp) ?_;refine(AllReadyH.cons rfl (fun K hK=>?_) (AllReadyH.cons rfl (fun K hK=>?_) AllReadyH.nil))
     case' _=>
      go_simp;refine hK.out _ _ trivial (fun _=>?_);clear hK K;(try simp only[Act.put,lY])
      have HQ7:=yH (HQ7.out.grew hG5);have HQ5:=yH (show NewInts w1 y5 (y7).heap.size (tabN D.n D.sz) from⟨hB5,HG7.out.size⟩);have HD:=yH (show(y7).heap.size≠(w1.drew).heap.size from Ne.symm (Nat.ne_of_lt HLT7.out));have HG5:=yH (Grew.trans HG7.out hG5);clear hr5 hB5 hG5 hs5;refine wpAnyH_ready (rs:=[10]) (by kernel_rfl) (by simp) ?_
      refine(AllReadyH.cons rfl (fun K hK=>?_) AllReadyH.nil);go_simp;refine(pnew_any D.n _ (by omega)).mono ?_;rintro e y10 ⟨A10,c10,rfl,hp10,hg10,hn10⟩;refine hK.out _ _ trivial (fun _=>?_);clear hK K;(try simp only[Act.put,lY])
      have HQ7:=yH (HQ7.out.grew hg10);have HQ5:=yH (HQ5.out.grew hg10);have HQ10:=yH (show NewPool w1 y10 (y5).heap.size D.n A10 c10 from⟨hp10,fun j hj=>Nat.le_trans HG5.out.size (hn10 j hj)⟩);have HG10:=yH (Grew.trans HG5.out hg10);clear hp10 hg10 hn10
     rotate_left
     case' _=>
      go_simp;refine(pnew_any D.n _ (by omega)).mono ?_;rintro e y10 ⟨A10,c10,rfl,hp10,hg10,hn10⟩;refine hK.out _ _ trivial (fun _=>?_);clear hK K;(try simp only[Act.put,lY])
      have HQ7:=yH (HQ7.out.grew hg10);have HLT7:=yH (Nat.lt_of_lt_of_le HLT7.out hg10.size);have HQ10:=yH (show NewPool w1 y10 (y7).heap.size D.n A10 c10 from⟨hp10,fun j hj=>Nat.le_trans HG7.out.size (hn10 j hj)⟩);have HG10:=yH (Grew.trans HG7.out hg10);clear hp10 hg10 hn10;clear hr5 hB5 hG5 hs5 y5;obtain⟨y5,hr5,hB5,hG5,hs5⟩:=make_ints (tabN D.n D.sz) (y10) (by omega)
      refine wpAnyH_ready (rs:=[5]) (by kernel_rfl) (by simp) ?_;refine(AllReadyH.cons rfl (fun K hK=>?_) AllReadyH.nil);go_simp;refine hK.out _ _ trivial (fun _=>?_);clear hK K;(try simp only[Act.put,lY])
      have HQ7:=yH (HQ7.out.grew hG5);have HQ10:=yH (HQ10.out.grew hG5);have HQ5:=yH (show NewInts w1 y5 (y10).heap.size (tabN D.n D.sz) from⟨hB5,HG10.out.size⟩);have HD:=yH (show(y10).heap.size≠(w1.drew).heap.size from Ne.symm (Nat.ne_of_lt HLT7.out));have HG5:=yH (Grew.trans HG10.out hG5);clear hr5 hB5 hG5 hs5
     rotate_left
    rotate_left 2
   rotate_left 3
   case' _=>
    go_simp;refine(dsectors_any d F D _ (H.out.1.grew (Grew.trans HG1.out HG0.out))).mono ?_;rintro e u2 ⟨rfl,rfl⟩;refine hK.out _ _ trivial (fun _=>?_);clear hK K;(try simp only[Act.put,lY])
    clear hr5 hB5 hG5 hs5 y5 hr7 hB7 hG7 hs7 y7;obtain⟨y5,hr5,hB5,hG5,hs5⟩:=make_ints (tabN D.n D.sz) (w1.drew) (by omega);obtain⟨y7,hr7,hB7,hG7,hs7⟩:=make_ints (capN D.n D.sz) (w1.drew) (by omega);refine wpAnyH_ready (rs:=[5,7,10]) (by kernel_rfl) (by simp) ?_
    refine(AllReadyH.cons rfl (fun K hK=>?_) (AllReadyH.cons rfl (fun K hK=>?_) (AllReadyH.cons rfl (fun K hK=>?_) AllReadyH.nil)))
    case' _=>
     go_simp;refine hK.out _ _ trivial (fun _=>?_);clear hK K;(try simp only[Act.put,lY])
     have HQ5:=yH (show NewInts w1 y5 (w1.drew).heap.size (tabN D.n D.sz) from⟨hB5,HG0.out.size⟩);have HLT5:=yH (show(w1.drew).heap.size< y5.heap.size from HQ5.out.1.lt);have HG5:=yH (Grew.trans HG0.out hG5);clear hr5 hB5 hG5 hs5 hr7 hB7 hG7 hs7 y7;obtain⟨y7,hr7,hB7,hG7,hs7⟩:=make_ints (capN D.n D.sz) (y5) (by omega)
     refine wpAnyH_ready (rs:=[7,10]) (by kernel_rfl) (by simp) ?_;refine(AllReadyH.cons rfl (fun K hK=>?_) (AllReadyH.cons rfl (fun K hK=>?_) AllReadyH.nil))
     case' _=>
      go_simp;refine hK.out _ _ trivial (fun _=>?_);clear hK K;(try simp only[Act.put,lY])
      have HQ5:=yH (HQ5.out.grew hG7);have HQ7:=yH (show NewInts w1 y7 (y5).heap.size (capN D.n D.sz) from⟨hB7,HG5.out.size⟩);have HD:=yH (show(w1.drew).heap.size≠(y5).heap.size from Nat.ne_of_lt HLT5.out);have HG7:=yH (Grew.trans HG5.out hG7);clear hr7 hB7 hG7 hs7;refine wpAnyH_ready (rs:=[10]) (by kernel_rfl) (by simp) ?_
      refine(AllReadyH.cons rfl (fun K hK=>?_) AllReadyH.nil);go_simp;refine(pnew_any D.n _ (by omega)).mono ?_;rintro e y10 ⟨A10,c10,rfl,hp10,hg10,hn10⟩;refine hK.out _ _ trivial (fun _=>?_);clear hK K;(try simp only[Act.put,lY])
      have HQ5:=yH (HQ5.out.grew hg10);have HQ7:=yH (HQ7.out.grew hg10);have HQ10:=yH (show NewPool w1 y10 (y7).heap.size D.n A10 c10 from⟨hp10,fun j hj=>Nat.le_trans HG7.out.size (hn10 j hj)⟩);have HG10:=yH (Grew.trans HG7.out hg10);clear hp10 hg10 hn10
     rotate_left
     case' _=>
      go_simp;refine(pnew_any D.n _ (by omega)).mono ?_;rintro e y10 ⟨A10,c10,rfl,hp10,hg10,hn10⟩;refine hK.out _ _ trivial (fun _=>?_);clear hK K;(try simp only[Act.put,lY])
      have HQ5:=yH (HQ5.out.grew hg10);have HLT5:=yH (Nat.lt_of_lt_of_le HLT5.out hg10.size);have HQ10:=yH (show NewPool w1 y10 (y5).heap.size D.n A10 c10 from⟨hp10,fun j hj=>Nat.le_trans HG5.out.size (hn10 j hj)⟩);have HG10:=yH (Grew.trans HG5.out hg10);clear hp10 hg10 hn10;clear hr7 hB7 hG7 hs7 y7;obtain⟨y7,hr7,hB7,hG7,hs7⟩:=make_ints (capN D.n D.sz) (y10) (by omega)
      refine wpAnyH_ready (rs:=[7]) (by kernel_rfl) (by simp) ?_;refine(AllReadyH.cons rfl (fun K hK=>?_) AllReadyH.nil);go_simp;refine hK.out _ _ trivial (fun _=>?_);clear hK K;(try simp only[Act.put,lY])
      have HQ5:=yH (HQ5.out.grew hG7);have HQ10:=yH (HQ10.out.grew hG7);have HQ7:=yH (show NewInts w1 y7 (y10).heap.size (capN D.n D.sz) from⟨hB7,HG10.out.size⟩);have HD:=yH (show(w1.drew).heap.size≠(y10).heap.size from Nat.ne_of_lt HLT5.out);have HG7:=yH (Grew.trans HG10.out hG7);clear hr7 hB7 hG7 hs7
     rotate_left
    rotate_left 2
    case' _=>
     go_simp;refine hK.out _ _ trivial (fun _=>?_);clear hK K;(try simp only[Act.put,lY])
     have HQ7:=yH (show NewInts w1 y7 (w1.drew).heap.size (capN D.n D.sz) from⟨hB7,HG0.out.size⟩);have HLT7:=yH (show(w1.drew).heap.size< y7.heap.size from HQ7.out.1.lt);have HG7:=yH (Grew.trans HG0.out hG7);clear hr7 hB7 hG7 hs7 hr5 hB5 hG5 hs5 y5;obtain⟨y5,hr5,hB5,hG5,hs5⟩:=make_ints (tabN D.n D.sz) (y7) (by omega)
     refine wpAnyH_ready (rs:=[5,10]) (by kernel_rfl) (by simp) ?_;refine(AllReadyH.cons rfl (fun K hK=>?_) (AllReadyH.cons rfl (fun K hK=>?_) AllReadyH.nil))
     case' _=>
      go_simp;refine hK.out _ _ trivial (fun _=>?_);clear hK K;(try simp only[Act.put,lY])
      have HQ7:=yH (HQ7.out.grew hG5);have HQ5:=yH (show NewInts w1 y5 (y7).heap.size (tabN D.n D.sz) from⟨hB5,HG7.out.size⟩);have HD:=yH (show(y7).heap.size≠(w1.drew).heap.size from Ne.symm (Nat.ne_of_lt HLT7.out));have HG5:=yH (Grew.trans HG7.out hG5);clear hr5 hB5 hG5 hs5;refine wpAnyH_ready (rs:=[10]) (by kernel_rfl) (by simp) ?_
      refine(AllReadyH.cons rfl (fun K hK=>?_) AllReadyH.nil);go_simp;refine(pnew_any D.n _ (by omega)).mono ?_;rintro e y10 ⟨A10,c10,rfl,hp10,hg10,hn10⟩;refine hK.out _ _ trivial (fun _=>?_);clear hK K;(try simp only[Act.put,lY])
      have HQ7:=yH (HQ7.out.grew hg10);have HQ5:=yH (HQ5.out.grew hg10);have HQ10:=yH (show NewPool w1 y10 (y5).heap.size D.n A10 c10 from⟨hp10,fun j hj=>Nat.le_trans HG5.out.size (hn10 j hj)⟩);have HG10:=yH (Grew.trans HG5.out hg10);clear hp10 hg10 hn10
     rotate_left
     case' _=>
      go_simp;refine(pnew_any D.n _ (by omega)).mono ?_;rintro e y10 ⟨A10,c10,rfl,hp10,hg10,hn10⟩;refine hK.out _ _ trivial (fun _=>?_);clear hK K;(try simp only[Act.put,lY])
      have HQ7:=yH (HQ7.out.grew hg10);have HLT7:=yH (Nat.lt_of_lt_of_le HLT7.out hg10.size);have HQ10:=yH (show NewPool w1 y10 (y7).heap.size D.n A10 c10 from⟨hp10,fun j hj=>Nat.le_trans HG7.out.size (hn10 j hj)⟩);have HG10:=yH (Grew.trans HG7.out hg10);clear hp10 hg10 hn10;clear hr5 hB5 hG5 hs5 y5;obtain⟨y5,hr5,hB5,hG5,hs5⟩:=make_ints (tabN D.n D.sz) (y10) (by omega)
      refine wpAnyH_ready (rs:=[5]) (by kernel_rfl) (by simp) ?_;refine(AllReadyH.cons rfl (fun K hK=>?_) AllReadyH.nil);go_simp;refine hK.out _ _ trivial (fun _=>?_);clear hK K;(try simp only[Act.put,lY])
      have HQ7:=yH (HQ7.out.grew hG5);have HQ10:=yH (HQ10.out.grew hG5);have HQ5:=yH (show NewInts w1 y5 (y10).heap.size (tabN D.n D.sz) from⟨hB5,HG10.out.size⟩);have HD:=yH (show(y10).heap.size≠(w1.drew).heap.size from Ne.symm (Nat.ne_of_lt HLT7.out));have HG5:=yH (Grew.trans HG10.out hG5);clear hr5 hB5 hG5 hs5
     rotate_left
    rotate_left 2
    case' _=>
     go_simp;refine(pnew_any D.n _ (by omega)).mono ?_;rintro e y10 ⟨A10,c10,rfl,hp10,hg10,hn10⟩;refine hK.out _ _ trivial (fun _=>?_);clear hK K;(try simp only[Act.put,lY])
     have HQ10:=yH (show NewPool w1 y10 (w1.drew).heap.size D.n A10 c10 from⟨hp10,fun j hj=>Nat.le_trans HG0.out.size (hn10 j hj)⟩);have HG10:=yH (Grew.trans HG0.out hg10);clear hp10 hg10 hn10;clear hr5 hB5 hG5 hs5 y5 hr7 hB7 hG7 hs7 y7;obtain⟨y5,hr5,hB5,hG5,hs5⟩:=make_ints (tabN D.n D.sz) (y10) (by omega)
     obtain⟨y7,hr7,hB7,hG7,hs7⟩:=make_ints (capN D.n D.sz) (y10) (by omega);refine wpAnyH_ready (rs:=[5,7]) (by kernel_rfl) (by simp) ?_;refine(AllReadyH.cons rfl (fun K hK=>?_) (AllReadyH.cons rfl (fun K hK=>?_) AllReadyH.nil))
     case' _=>
      go_simp;refine hK.out _ _ trivial (fun _=>?_);clear hK K;(try simp only[Act.put,lY])
      have HQ10:=yH (HQ10.out.grew hG5);have HQ5:=yH (show NewInts w1 y5 (y10).heap.size (tabN D.n D.sz) from⟨hB5,HG10.out.size⟩);have HLT5:=yH (show(y10).heap.size< y5.heap.size from HQ5.out.1.lt);have HG5:=yH (Grew.trans HG10.out hG5);clear hr5 hB5 hG5 hs5 hr7 hB7 hG7 hs7 y7;obtain⟨y7,hr7,hB7,hG7,hs7⟩:=make_ints (capN D.n D.sz) (y5) (by omega)
      refine wpAnyH_ready (rs:=[7]) (by kernel_rfl) (by simp) ?_;refine(AllReadyH.cons rfl (fun K hK=>?_) AllReadyH.nil);go_simp;refine hK.out _ _ trivial (fun _=>?_);clear hK K;(try simp only[Act.put,lY])
      have HQ10:=yH (HQ10.out.grew hG7);have HQ5:=yH (HQ5.out.grew hG7);have HQ7:=yH (show NewInts w1 y7 (y5).heap.size (capN D.n D.sz) from⟨hB7,HG5.out.size⟩);have HD:=yH (show(y10).heap.size≠(y5).heap.size from Nat.ne_of_lt HLT5.out);have HG7:=yH (Grew.trans HG5.out hG7);clear hr7 hB7 hG7 hs7
     rotate_left
     case' _=>
      go_simp;refine hK.out _ _ trivial (fun _=>?_);clear hK K;(try simp only[Act.put,lY])
      have HQ10:=yH (HQ10.out.grew hG7);have HQ7:=yH (show NewInts w1 y7 (y10).heap.size (capN D.n D.sz) from⟨hB7,HG10.out.size⟩);have HLT7:=yH (show(y10).heap.size< y7.heap.size from HQ7.out.1.lt);have HG7:=yH (Grew.trans HG10.out hG7);clear hr7 hB7 hG7 hs7 hr5 hB5 hG5 hs5 y5;obtain⟨y5,hr5,hB5,hG5,hs5⟩:=make_ints (tabN D.n D.sz) (y7) (by omega)
      refine wpAnyH_ready (rs:=[5]) (by kernel_rfl) (by simp) ?_;refine(AllReadyH.cons rfl (fun K hK=>?_) AllReadyH.nil);go_simp;refine hK.out _ _ trivial (fun _=>?_);clear hK K;(try simp only[Act.put,lY])
      have HQ10:=yH (HQ10.out.grew hG5);have HQ7:=yH (HQ7.out.grew hG5);have HQ5:=yH (show NewInts w1 y5 (y7).heap.size (tabN D.n D.sz) from⟨hB5,HG7.out.size⟩);have HD:=yH (show(y7).heap.size≠(y10).heap.size from Ne.symm (Nat.ne_of_lt HLT7.out));have HG5:=yH (Grew.trans HG7.out hG5);clear hr5 hB5 hG5 hs5
     rotate_left
    rotate_left 2
   rotate_left 6
  rotate_left 12
  case' _=>
   go_simp;refine hK.out _ _ trivial (fun _=>?_);clear hK K;(try simp only[Act.put,lY])
   have HQ5:=yH (show NewInts w1 y5 (w1.drew).heap.size (tabN D.n D.sz) from⟨hB5,HG0.out.size⟩);have HLT5:=yH (show(w1.drew).heap.size< y5.heap.size from HQ5.out.1.lt);have HG5:=yH (Grew.trans HG0.out hG5);clear hr5 hB5 hG5 hs5 hr7 hB7 hG7 hs7 y7;obtain⟨y7,hr7,hB7,hG7,hs7⟩:=make_ints (capN D.n D.sz) (y5) (by omega);refine wpAnyH_ready (rs:=[2,7]) (by kernel_rfl) (by simp) ?_
   refine(AllReadyH.cons rfl (fun K hK=>?_) (AllReadyH.cons rfl (fun K hK=>?_) AllReadyH.nil))
   case' _=>
    go_simp;refine(dsize_any d F D _ (H.out.1.grew (Grew.trans HG1.out HG5.out))).mono ?_;rintro e u2 ⟨rfl,rfl⟩;refine hK.out _ _ trivial (fun _=>?_);clear hK K;(try simp only[Act.put,lY])
    clear hr7 hB7 hG7 hs7 y7;refine tkH1 (i:=3) (v:=?_) rfl (Or.inl ⟨by rfl,?_⟩) trivial ?_;rotate_left
    ·(intro w hSw;(try dsimp only at hSw);go_simp)<;>with_reducible rfl
    (try simp only[Act.put,lY])
    obtain⟨y7,hr7,hB7,hG7,hs7⟩:=make_ints (capN D.n D.sz) (y5) (by omega);refine wpAnyH_ready (rs:=[7,9]) (by kernel_rfl) (by simp) ?_;refine(AllReadyH.cons rfl (fun K hK=>?_) (AllReadyH.cons rfl (fun K hK=>?_) AllReadyH.nil))
    case' _=>
     go_simp;refine hK.out _ _ trivial (fun _=>?_);clear hK K;(try simp only[Act.put,lY])
     have HQ5:=yH (HQ5.out.grew hG7);have HQ7:=yH (show NewInts w1 y7 (y5).heap.size (capN D.n D.sz) from⟨hB7,HG5.out.size⟩);have HD:=yH (show(w1.drew).heap.size≠(y5).heap.size from Nat.ne_of_lt HLT5.out);have HG7:=yH (Grew.trans HG5.out hG7);clear hr7 hB7 hG7 hs7;refine wpAnyH_ready (rs:=[9]) (by kernel_rfl) (by simp) ?_
     refine(AllReadyH.cons rfl (fun K hK=>?_) AllReadyH.nil);go_simp;refine(dsectors_any d F D _ (H.out.1.grew (Grew.trans HG1.out HG7.out))).mono ?_;rintro e u2 ⟨rfl,rfl⟩;refine hK.out _ _ trivial (fun _=>?_);clear hK K;(try simp only[Act.put,lY])
     refine wpAnyH_ready (rs:=[10]) (by kernel_rfl) (by simp) ?_;refine(AllReadyH.cons rfl (fun K hK=>?_) AllReadyH.nil);go_simp;refine(pnew_any D.n _ (by omega)).mono ?_;rintro e y10 ⟨A10,c10,rfl,hp10,hg10,hn10⟩;refine hK.out _ _ trivial (fun _=>?_);clear hK K;(try simp only[Act.put,lY])
     have HQ5:=yH (HQ5.out.grew hg10);have HQ7:=yH (HQ7.out.grew hg10);have HQ10:=yH (show NewPool w1 y10 (y7).heap.size D.n A10 c10 from⟨hp10,fun j hj=>Nat.le_trans HG7.out.size (hn10 j hj)⟩);have HG10:=yH (Grew.trans HG7.out hg10);clear hp10 hg10 hn10
    rotate_left
    case' _=>
     go_simp;refine(dsectors_any d F D _ (H.out.1.grew (Grew.trans HG1.out HG5.out))).mono ?_;rintro e u2 ⟨rfl,rfl⟩;refine hK.out _ _ trivial (fun _=>?_);clear hK K;(try simp only[Act.put,lY])
     clear hr7 hB7 hG7 hs7 y7;obtain⟨y7,hr7,hB7,hG7,hs7⟩:=make_ints (capN D.n D.sz) (y5) (by omega);refine wpAnyH_ready (rs:=[7,10]) (by kernel_rfl) (by simp) ?_;refine(AllReadyH.cons rfl (fun K hK=>?_) (AllReadyH.cons rfl (fun K hK=>?_) AllReadyH.nil))
     case' _=>
      go_simp;refine hK.out _ _ trivial (fun _=>?_);clear hK K;(try simp only[Act.put,lY])
      have HQ5:=yH (HQ5.out.grew hG7);have HQ7:=yH (show NewInts w1 y7 (y5).heap.size (capN D.n D.sz) from⟨hB7,HG5.out.size⟩);have HD:=yH (show(w1.drew).heap.size≠(y5).heap.size from Nat.ne_of_lt HLT5.out);have HG7:=yH (Grew.trans HG5.out hG7);clear hr7 hB7 hG7 hs7;refine wpAnyH_ready (rs:=[10]) (by kernel_rfl) (by simp) ?_
      refine(AllReadyH.cons rfl (fun K hK=>?_) AllReadyH.nil);go_simp;refine(pnew_any D.n _ (by omega)).mono ?_;rintro e y10 ⟨A10,c10,rfl,hp10,hg10,hn10⟩;refine hK.out _ _ trivial (fun _=>?_);clear hK K;(try simp only[Act.put,lY])
      have HQ5:=yH (HQ5.out.grew hg10);have HQ7:=yH (HQ7.out.grew hg10);have HQ10:=yH (show NewPool w1 y10 (y7).heap.size D.n A10 c10 from⟨hp10,fun j hj=>Nat.le_trans HG7.out.size (hn10 j hj)⟩);have HG10:=yH (Grew.trans HG7.out hg10);clear hp10 hg10 hn10
     rotate_left
     case' _=>
      go_simp;refine(pnew_any D.n _ (by omega)).mono ?_;rintro e y10 ⟨A10,c10,rfl,hp10,hg10,hn10⟩;refine hK.out _ _ trivial (fun _=>?_);clear hK K;(try simp only[Act.put,lY])
      have HQ5:=yH (HQ5.out.grew hg10);have HLT5:=yH (Nat.lt_of_lt_of_le HLT5.out hg10.size);have HQ10:=yH (show NewPool w1 y10 (y5).heap.size D.n A10 c10 from⟨hp10,fun j hj=>Nat.le_trans HG5.out.size (hn10 j hj)⟩);have HG10:=yH (Grew.trans HG5.out hg10);clear hp10 hg10 hn10;clear hr7 hB7 hG7 hs7 y7;obtain⟨y7,hr7,hB7,hG7,hs7⟩:=make_ints (capN D.n D.sz) (y10) (by omega)
      refine wpAnyH_ready (rs:=[7]) (by kernel_rfl) (by simp) ?_;refine(AllReadyH.cons rfl (fun K hK=>?_) AllReadyH.nil);go_simp;refine hK.out _ _ trivial (fun _=>?_);clear hK K;(try simp only[Act.put,lY])
      have HQ5:=yH (HQ5.out.grew hG7);have HQ10:=yH (HQ10.out.grew hG7);have HQ7:=yH (show NewInts w1 y7 (y10).heap.size (capN D.n D.sz) from⟨hB7,HG10.out.size⟩);have HD:=yH (show(w1.drew).heap.size≠(y10).heap.size from Nat.ne_of_lt HLT5.out);have HG7:=yH (Grew.trans HG10.out hG7);clear hr7 hB7 hG7 hs7
     rotate_left
    rotate_left 2
   rotate_left 3
   case' _=>
    go_simp;refine hK.out _ _ trivial (fun _=>?_);clear hK K;(try simp only[Act.put,lY])
    have HQ5:=yH (HQ5.out.grew hG7);have HQ7:=yH (show NewInts w1 y7 (y5).heap.size (capN D.n D.sz) from⟨hB7,HG5.out.size⟩);have HD:=yH (show(w1.drew).heap.size≠(y5).heap.size from Nat.ne_of_lt HLT5.out);have HG7:=yH (Grew.trans HG5.out hG7);clear hr7 hB7 hG7 hs7;refine wpAnyH_ready (rs:=[2]) (by kernel_rfl) (by simp) ?_;refine(AllReadyH.cons rfl (fun K hK=>?_) AllReadyH.nil)
    go_simp;refine(dsize_any d F D _ (H.out.1.grew (Grew.trans HG1.out HG7.out))).mono ?_;rintro e u2 ⟨rfl,rfl⟩;refine hK.out _ _ trivial (fun _=>?_);clear hK K;(try simp only[Act.put,lY])
    refine tkH1 (i:=3) (v:=?_) rfl (Or.inl ⟨by rfl,?_⟩) trivial ?_;rotate_left
    ·(intro w hSw;(try dsimp only at hSw);go_simp)<;>with_reducible rfl
    (try simp only[Act.put,lY])
    refine wpAnyH_ready (rs:=[9]) (by kernel_rfl) (by simp) ?_;refine(AllReadyH.cons rfl (fun K hK=>?_) AllReadyH.nil);go_simp;refine(dsectors_any d F D _ (H.out.1.grew (Grew.trans HG1.out HG7.out))).mono ?_;rintro e u2 ⟨rfl,rfl⟩;refine hK.out _ _ trivial (fun _=>?_);clear hK K;(try simp only[Act.put,lY])
    refine wpAnyH_ready (rs:=[10]) (by kernel_rfl) (by simp) ?_;refine(AllReadyH.cons rfl (fun K hK=>?_) AllReadyH.nil);go_simp;refine(pnew_any D.n _ (by omega)).mono ?_;rintro e y10 ⟨A10,c10,rfl,hp10,hg10,hn10⟩;refine hK.out _ _ trivial (fun _=>?_);clear hK K;(try simp only[Act.put,lY])
    have HQ5:=yH (HQ5.out.grew hg10);have HQ7:=yH (HQ7.out.grew hg10);have HQ10:=yH (show NewPool w1 y10 (y7).heap.size D.n A10 c10 from⟨hp10,fun j hj=>Nat.le_trans HG7.out.size (hn10 j hj)⟩);have HG10:=yH (Grew.trans HG7.out hg10);clear hp10 hg10 hn10
   rotate_left
  rotate_left 4
  case' _=>
   go_simp;refine hK.out _ _ trivial (fun _=>?_);clear hK K;(try simp only[Act.put,lY])
   have HQ7:=yH (show NewInts w1 y7 (w1.drew).heap.size (capN D.n D.sz) from⟨hB7,HG0.out.size⟩);have HLT7:=yH (show(w1.drew).heap.size< y7.heap.size from HQ7.out.1.lt);have HG7:=yH (Grew.trans HG0.out hG7);clear hr7 hB7 hG7 hs7 hr5 hB5 hG5 hs5 y5;obtain⟨y5,hr5,hB5,hG5,hs5⟩:=make_ints (tabN D.n D.sz) (y7) (by omega);refine wpAnyH_ready (rs:=[2,5]) (by kernel_rfl) (by simp) ?_
   refine(AllReadyH.cons rfl (fun K hK=>?_) (AllReadyH.cons rfl (fun K hK=>?_) AllReadyH.nil))
   case' _=>
    go_simp;refine(dsize_any d F D _ (H.out.1.grew (Grew.trans HG1.out HG7.out))).mono ?_;rintro e u2 ⟨rfl,rfl⟩;refine hK.out _ _ trivial (fun _=>?_);clear hK K;(try simp only[Act.put,lY])
    clear hr5 hB5 hG5 hs5 y5;refine tkH1 (i:=3) (v:=?_) rfl (Or.inl ⟨by rfl,?_⟩) trivial ?_;rotate_left
    ·(intro w hSw;(try dsimp only at hSw);go_simp)<;>with_reducible rfl
    (try simp only[Act.put,lY])
    obtain⟨y5,hr5,hB5,hG5,hs5⟩:=make_ints (tabN D.n D.sz) (y7) (by omega);refine wpAnyH_ready (rs:=[5,9]) (by kernel_rfl) (by simp) ?_;refine(AllReadyH.cons rfl (fun K hK=>?_) (AllReadyH.cons rfl (fun K hK=>?_) AllReadyH.nil))
    case' _=>
     go_simp;refine hK.out _ _ trivial (fun _=>?_);clear hK K;(try simp only[Act.put,lY])
     have HQ7:=yH (HQ7.out.grew hG5);have HQ5:=yH (show NewInts w1 y5 (y7).heap.size (tabN D.n D.sz) from⟨hB5,HG7.out.size⟩);have HD:=yH (show(y7).heap.size≠(w1.drew).heap.size from Ne.symm (Nat.ne_of_lt HLT7.out));have HG5:=yH (Grew.trans HG7.out hG5);clear hr5 hB5 hG5 hs5;refine wpAnyH_ready (rs:=[9]) (by kernel_rfl) (by simp) ?_
     refine(AllReadyH.cons rfl (fun K hK=>?_) AllReadyH.nil);go_simp;refine(dsectors_any d F D _ (H.out.1.grew (Grew.trans HG1.out HG5.out))).mono ?_;rintro e u2 ⟨rfl,rfl⟩;refine hK.out _ _ trivial (fun _=>?_);clear hK K;(try simp only[Act.put,lY])
     refine wpAnyH_ready (rs:=[10]) (by kernel_rfl) (by simp) ?_;refine(AllReadyH.cons rfl (fun K hK=>?_) AllReadyH.nil);go_simp;refine(pnew_any D.n _ (by omega)).mono ?_;rintro e y10 ⟨A10,c10,rfl,hp10,hg10,hn10⟩;refine hK.out _ _ trivial (fun _=>?_);clear hK K;(try simp only[Act.put,lY])
     have HQ7:=yH (HQ7.out.grew hg10);have HQ5:=yH (HQ5.out.grew hg10);have HQ10:=yH (show NewPool w1 y10 (y5).heap.size D.n A10 c10 from⟨hp10,fun j hj=>Nat.le_trans HG5.out.size (hn10 j hj)⟩);have HG10:=yH (Grew.trans HG5.out hg10);clear hp10 hg10 hn10
    rotate_left
    case' _=>
     go_simp;refine(dsectors_any d F D _ (H.out.1.grew (Grew.trans HG1.out HG7.out))).mono ?_;rintro e u2 ⟨rfl,rfl⟩;refine hK.out _ _ trivial (fun _=>?_);clear hK K;(try simp only[Act.put,lY])
     clear hr5 hB5 hG5 hs5 y5;obtain⟨y5,hr5,hB5,hG5,hs5⟩:=make_ints (tabN D.n D.sz) (y7) (by omega);refine wpAnyH_ready (rs:=[5,10]) (by kernel_rfl) (by simp) ?_;refine(AllReadyH.cons rfl (fun K hK=>?_) (AllReadyH.cons rfl (fun K hK=>?_) AllReadyH.nil))
     case' _=>
      go_simp;refine hK.out _ _ trivial (fun _=>?_);clear hK K;(try simp only[Act.put,lY])
      have HQ7:=yH (HQ7.out.grew hG5);have HQ5:=yH (show NewInts w1 y5 (y7).heap.size (tabN D.n D.sz) from⟨hB5,HG7.out.size⟩);have HD:=yH (show(y7).heap.size≠(w1.drew).heap.size from Ne.symm (Nat.ne_of_lt HLT7.out));have HG5:=yH (Grew.trans HG7.out hG5);clear hr5 hB5 hG5 hs5;refine wpAnyH_ready (rs:=[10]) (by kernel_rfl) (by simp) ?_
      refine(AllReadyH.cons rfl (fun K hK=>?_) AllReadyH.nil);go_simp;refine(pnew_any D.n _ (by omega)).mono ?_;rintro e y10 ⟨A10,c10,rfl,hp10,hg10,hn10⟩;refine hK.out _ _ trivial (fun _=>?_);clear hK K;(try simp only[Act.put,lY])
      have HQ7:=yH (HQ7.out.grew hg10);have HQ5:=yH (HQ5.out.grew hg10);have HQ10:=yH (show NewPool w1 y10 (y5).heap.size D.n A10 c10 from⟨hp10,fun j hj=>Nat.le_trans HG5.out.size (hn10 j hj)⟩);have HG10:=yH (Grew.trans HG5.out hg10);clear hp10 hg10 hn10
     rotate_left
     case' _=>
      go_simp;refine(pnew_any D.n _ (by omega)).mono ?_;rintro e y10 ⟨A10,c10,rfl,hp10,hg10,hn10⟩;refine hK.out _ _ trivial (fun _=>?_);clear hK K;(try simp only[Act.put,lY])
      have HQ7:=yH (HQ7.out.grew hg10);have HLT7:=yH (Nat.lt_of_lt_of_le HLT7.out hg10.size);have HQ10:=yH (show NewPool w1 y10 (y7).heap.size D.n A10 c10 from⟨hp10,fun j hj=>Nat.le_trans HG7.out.size (hn10 j hj)⟩);have HG10:=yH (Grew.trans HG7.out hg10);clear hp10 hg10 hn10;clear hr5 hB5 hG5 hs5 y5;obtain⟨y5,hr5,hB5,hG5,hs5⟩:=make_ints (tabN D.n D.sz) (y10) (by omega)
      refine wpAnyH_ready (rs:=[5]) (by kernel_rfl) (by simp) ?_;refine(AllReadyH.cons rfl (fun K hK=>?_) AllReadyH.nil);go_simp;refine hK.out _ _ trivial (fun _=>?_);clear hK K;(try simp only[Act.put,lY])
      have HQ7:=yH (HQ7.out.grew hG5);have HQ10:=yH (HQ10.out.grew hG5);have HQ5:=yH (show NewInts w1 y5 (y10).heap.size (tabN D.n D.sz) from⟨hB5,HG10.out.size⟩);have HD:=yH (show(y10).heap.size≠(w1.drew).heap.size from Ne.symm (Nat.ne_of_lt HLT7.out));have HG5:=yH (Grew.trans HG10.out hG5);clear hr5 hB5 hG5 hs5
     rotate_left
    rotate_left 2
   rotate_left 3
   case' _=>
    go_simp;refine hK.out _ _ trivial (fun _=>?_);clear hK K;(try simp only[Act.put,lY])
    have HQ7:=yH (HQ7.out.grew hG5);have HQ5:=yH (show NewInts w1 y5 (y7).heap.size (tabN D.n D.sz) from⟨hB5,HG7.out.size⟩);have HD:=yH (show(y7).heap.size≠(w1.drew).heap.size from Ne.symm (Nat.ne_of_lt HLT7.out));have HG5:=yH (Grew.trans HG7.out hG5);clear hr5 hB5 hG5 hs5;refine wpAnyH_ready (rs:=[2]) (by kernel_rfl) (by simp) ?_
    refine(AllReadyH.cons rfl (fun K hK=>?_) AllReadyH.nil);go_simp;refine(dsize_any d F D _ (H.out.1.grew (Grew.trans HG1.out HG5.out))).mono ?_;rintro e u2 ⟨rfl,rfl⟩;refine hK.out _ _ trivial (fun _=>?_);clear hK K;(try simp only[Act.put,lY])
    refine tkH1 (i:=3) (v:=?_) rfl (Or.inl ⟨by rfl,?_⟩) trivial ?_;rotate_left
    ·(intro w hSw;(try dsimp only at hSw);go_simp)<;>with_reducible rfl
    (try simp only[Act.put,lY])
    refine wpAnyH_ready (rs:=[9]) (by kernel_rfl) (by simp) ?_;refine(AllReadyH.cons rfl (fun K hK=>?_) AllReadyH.nil);go_simp;refine(dsectors_any d F D _ (H.out.1.grew (Grew.trans HG1.out HG5.out))).mono ?_;rintro e u2 ⟨rfl,rfl⟩;refine hK.out _ _ trivial (fun _=>?_);clear hK K;(try simp only[Act.put,lY])
    refine wpAnyH_ready (rs:=[10]) (by kernel_rfl) (by simp) ?_;refine(AllReadyH.cons rfl (fun K hK=>?_) AllReadyH.nil);go_simp;refine(pnew_any D.n _ (by omega)).mono ?_;rintro e y10 ⟨A10,c10,rfl,hp10,hg10,hn10⟩;refine hK.out _ _ trivial (fun _=>?_);clear hK K;(try simp only[Act.put,lY])
    have HQ7:=yH (HQ7.out.grew hg10);have HQ5:=yH (HQ5.out.grew hg10);have HQ10:=yH (show NewPool w1 y10 (y5).heap.size D.n A10 c10 from⟨hp10,fun j hj=>Nat.le_trans HG5.out.size (hn10 j hj)⟩);have HG10:=yH (Grew.trans HG5.out hg10);clear hp10 hg10 hn10
   rotate_left
  rotate_left 4
  all_goals
   refine tkH1 (i:=11) (v:=?_) rfl (Or.inl ⟨by rfl,?_⟩) trivial ?_;rotate_left
   ·(intro w hSw;(try dsimp only at hSw);go_simp)<;>with_reducible rfl
   (try simp only[Act.put,lY])
   refine rdH (i:=12) (by kernel_rfl) rfl fun K hK=>?_;go_simp;refine hK.out _ _ trivial (fun _=>?_);clear hK K;(try simp only[Act.put,lY])
   refine rdH (i:=13) (by kernel_rfl) rfl fun K hK=>?_;go_simp;refine hK.out _ _ trivial (fun _=>?_);clear hK K;(try simp only[Act.put,lY])
   refine wpAnyH_done (by kernel_rfl) ?_ _;go_wp2
   go_meet
   exact openJ_mk (by first | exact ew3 | omega) HQ5.out HQ7.out HD.out HQ10.out (by first | exact HG10.out | exact HG7.out | exact HG5.out)
 case rest=>
  obtain⟨p,g1,g2,b,A,c,rfl,hO⟩:=hcut;have HO:=yH hO;obtain⟨c0,f0,s0⟩:=hO.blk.facts;clear hO
  have hdF:∀u,Chg (PF b A) wc u→DS u d F D:=fun u hu=>((H.out.1.grew HG1.out).grew HO.out.grew).chg hu fun j hj e=>by
   have h1:=H.out.1.lt j hj;have h2:=HO.out.pool.new j e;have h3:=HG1.out.size;omega
  have hkeep:∀u,Chg (PF b A) wc u→Blk u p 101 #[.pointer (some ⟨d,0,none⟩),.int .i64 0,.int .i64 (D.sz / 2:Nat),.slice (some ⟨g1,0,none⟩) (tabN D.n D.sz) (tabN D.n D.sz),.slice (some ⟨g2,0,none⟩) (capN D.n D.sz) (capN D.n D.sz),.pointer (some ⟨b,0,none⟩),.pointer none,.bool false]:=fun u hu=>
   HO.out.blk.chg hu (pf_ne HO.out.pool.p HO.out.blk (by decide) (by decide))
  have HD:=yH hdF;have HK:=yH hkeep;have HX:=yH (show D.n≤65536 by omega);clear hdF hkeep;go_wp2
  go_loopw [41] (fun i wr=>∃k:Nat,k≤2∧i= .int .i64 k∧PIn wr b (mkd D.n k) A c∧Chg (PF b A) wc wr) (fun i _=>2 - (intOf i).toNat)
  case atStart=>exact⟨0,Nat.zero_le _,rfl,HO.out.pool.p,Chg.refl _ _⟩
  case round=>
   obtain⟨k,hk,rfl,hp,hc⟩:=hrel;have HP:=yH (yA hp hc);obtain⟨c1,f1,s1⟩:=(HK.out wr hc).facts;clear c0 f0 s0 hp hc;by_cases hlt:k< 2
   ·go_wp2_with (go_at_call 80;(refine(pmark_any b k _ A c _ HP.out.1 (by rw[mkd_len];exact HX.out)).mono ?_);rintro e w3 ⟨rfl,h3,h4⟩;have H3:=yH (yA h3 h4);clear h3 h4)
    have H4:=yH (show PIn w3 b (mkd D.n (k+1)) A c from by have:=H3.out.1;rw[mkd_mark D.n k (by omega)] at this;exact this);exact⟨⟨k+1,by omega,by simp,H4.out,Chg.trans HP.out.2 H3.out.2 fun _ _ e=>e⟩,by simp[intOf];omega⟩
   ·obtain rfl:k=2:=by omega
    go_wp2_with fail
    have hld:=H.out.2.2.1 _ (HD.out _ HP.out.2);have HL:=yH hld;clear hld;refine HL.out.mono ?_;rintro e w4 ⟨h4,⟨he0,rfl⟩ | ⟨he1,A4,c4,rfl,hs4,ha4⟩⟩
    ·have H4:=yH (yA h4 he0)
     clear h4 he0 c1 f1 s1;go_wp2_with fail
     go_ret2
     have hg:Grew w1 w4:=Grew.trans (Chg.trans HO.out.grew HP.out.2 fun i hi e=>by have:=HO.out.pool.new i e;omega) H4.out.1;have hsz:=HG1.out.size
     obtain⟨F',hF,hnew⟩:=gfresh_mk (w0:=w1) ((H.out.1.grew HG1.out).grew hg) (fun j hj=>Nat.lt_of_lt_of_le (H.out.1.lt j hj) hsz) h0 (Nat.lt_of_lt_of_le (tab_pos H.out.2.1) hsz) (tab_chg (tab_chg H.out.2.1 HG1.out id) hg id) hsm.2.1
      ((HK.out _ HP.out.2).grew H4.out.1) ((HO.out.t1.blk.chg HP.out.2 (pf_ne HO.out.pool.p HO.out.t1.blk (by decide) (by decide))).grew H4.out.1) ((HO.out.t2.blk.chg HP.out.2 (pf_ne HO.out.pool.p HO.out.t2.blk (by decide) (by decide))).grew H4.out.1) HO.out.ne (HP.out.1.grew H4.out.1)
      HO.out.new HO.out.t1.new HO.out.t2.new HO.out.pool.new
     exact⟨p,F',rfl,.inl ⟨H4.out.2,hF.grew ((Chg.refl _ _).alloc _)⟩,(Grew.trans HG1.out hg).alloc _,fun j hj=>(hnew j hj).imp id fun e=>Nat.le_trans hsz e⟩
    ·obtain⟨hpl,hpp,hq0⟩:=H.out.2.2.2.1 he1
     have hg:Grew w1 w4:=Grew.trans (Chg.trans HO.out.grew HP.out.2 fun i hi e=>by have:=HO.out.pool.new i e;omega) h4;have hpb:=(HK.out _ HP.out.2).grew h4;have ht1:=((HO.out.t1.blk.chg HP.out.2 (pf_ne HO.out.pool.p HO.out.t1.blk (by decide) (by decide))).grew h4);have ht2:=((HO.out.t2.blk.chg HP.out.2 (pf_ne HO.out.pool.p HO.out.t2.blk (by decide) (by decide))).grew h4)
     have hpi:=(HP.out.1.grew h4);have hpw:=(HK.out _ HP.out.2).lt;have H4:=yH (yA5 hg hpb ht1 ht2 (yA3 hpi hs4 (yA hq0 fun a (ha:A4=some a)=>Nat.lt_of_lt_of_le hpw (ha4 a ha))));clear hg hpb ht1 ht2 hpi hs4 hq0 h4 c1 f1 s1 ha4 hpw;have hpI:((pg.length:Int) !=(tabN D.n D.sz:Int))=false:=by rw[hpl];simp
     obtain⟨W5,hW5⟩:∃W,w4.alloc (.cells #[.int .i64 (ep:Nat),.slice A4 pg.length c4] 112)=W:=⟨_,rfl⟩;have hg5:Grew w4 W5:=hW5▸(Chg.refl _ _).alloc _;have hb8:Blk W5 w4.heap.size 112 #[.int .i64 (ep:Nat),.slice A4 pg.length c4]:=hW5▸Blk.new _ _ _;have hpb5:=H4.out.2.1.grew hg5;obtain⟨W6,hW6⟩:∃W,W5.setCell ⟨p,1,none⟩ (.int .i64 (ep:Nat))=W:=⟨_,rfl⟩
     have hc6:Chg (fun j=>j=p) W5 W6:=hW6▸(Chg.refl (fun j=>j=p) W5).setCell (p:=⟨p,1,none⟩) (fun _=>rfl) _;have hpb6:=hpb5.put 1 (.int .i64 (ep:Nat));rw[hW6] at hpb6;have hpl4:p< w4.heap.size:=H4.out.2.1.lt;have hb86:=hb8.chg hc6 (by omega);obtain⟨c1,f1,s1⟩:=hpb5.facts;obtain⟨e1,ef1,es1⟩:=hb8.facts;have H6:=yH (yA4 hg5 hc6 hpb6 hb86)
     have Hpl:=yH hpl;have HQ0:=yH hpp;clear hg5 hb8 hpb5 hc6 hpb6 hb86 hpl hpp;go_wp2_with fail
     clear c1 f1 s1 e1 ef1 es1;have hS0:W6.drew.cell? ⟨p,3,none⟩=some (.slice (some ⟨g1,0,none⟩) pg.length pg.length)∧W6.drew.cell? ⟨w4.heap.size,1,none⟩=some (.slice A4 pg.length c4):=⟨by rw[Hpl.out];exact H6.out.2.2.1.drew.cell 3,H6.out.2.2.2.drew.cell 1⟩
     refine wp_region_held_drew (S:=fun w'=>w'.cell? ⟨p,3,none⟩=some (.slice (some ⟨g1,0,none⟩) pg.length pg.length)∧w'.cell? ⟨w4.heap.size,1,none⟩=some (.slice A4 pg.length c4)) (by kernel_rfl) hS0 (fun hHeld=>?_);refine Todo.out (is:=[0,1,2,3,4,5]) ?_
     repeat
      refine tkH (v:=?_) rfl (Or.inl ⟨by rfl,?_⟩) hHeld ?_;rotate_left
      ·(intro w hSw;(try dsimp only at hSw);go_simp)<;>with_reducible rfl
      (try simp only[Act.put,lZ])
     refine Todo.fin ?_;refine rdH (i:=6) (by kernel_rfl) rfl fun K hK=>?_;go_simp;have hg1p:g1≠p:=blk_ne H4.out.2.2.1 H4.out.2.1 (by decide);have hg2p:g2≠p:=blk_ne H4.out.2.2.2.1 H4.out.2.1 (by decide);have ht16:=((H4.out.2.2.1.grew H6.out.1).chg H6.out.2.1 hg1p).drew
     have hs46:Sl W6.drew 1 A4 pg.length (nv pg):=(((yP4 H4.out).2.1.grew H6.out.1).chg H6.out.2.1 fun a ha e=>by have:=(yP6 H4.out).2 a ha;omega).grew (Chg.refl NoF _).drew
     obtain⟨W7,hcp,hB7,hg7⟩:=run_copy_sp (P:=prog) (w:=W6.drew) (ty:=3) (sT:=22) (dLen:=pg.length) (dCap:=pg.length) (sLen:=pg.length) (sCap:=c4) (sp:=A4) (off:=0) (cs:=nv pg) underlying22 (by kernel_rfl) ht16
      (by rw[nv_len];show _=min _ _;simp) hs46.src (by rw[nv_len,nv_len,List.length_replicate,←Hpl.out];omega) (nv_one _)
     rw[hcp]
     have hsp:splice (nv (List.replicate (tabN D.n D.sz) 0)) 0 (nv pg)=nv pg:=by
      unfold splice;rw[List.take_zero,List.nil_append,List.drop_of_length_le (by rw[nv_len,nv_len,List.length_replicate,←Hpl.out];omega),List.append_nil]
     rw[hsp] at hB7;have hc7:Chg (fun j=>j=g1) W6.drew W7:=(Chg.refl (fun j=>j=g1) W6.drew).grown hg7 fun k hk _=>by injection hk with hk;exact hk.symm
     have hpb7:=H6.out.2.2.1.drew.chg hc7 (Ne.symm hg1p);have hb87:=H6.out.2.2.2.drew.chg hc7 (fun e=>by have:=H4.out.2.2.1.lt;omega);have hS7:W7.cell? ⟨p,3,none⟩=some (.slice (some ⟨g1,0,none⟩) pg.length pg.length)∧W7.cell? ⟨w4.heap.size,1,none⟩=some (.slice A4 pg.length c4):=⟨by rw[Hpl.out];exact hpb7.cell 3,hb87.cell 1⟩
     have hpf:=pf_ne (yP4 H4.out).1 H4.out.2.1 (by decide) (by decide);have hpg1:=pf_ne (yP4 H4.out).1 H4.out.2.2.1 (by decide) (by decide);have hc47:Chg (fun j=>j=p∨j=g1) w4 W7:=Chg.trans (Chg.trans (H6.out.1.chg (F:=fun j=>j=p∨j=g1)) H6.out.2.1 fun j _ e=> .inl e) (Grew.then ((Chg.refl NoF W6).drew) hc7) fun j _ e=> .inr e
     have hL:LoJ w1 W7 p d (D.sz / 2) g1 g2 b pg.length (capN D.n D.sz) ep pg (List.replicate (capN D.n D.sz) 0) (mkd D.n 2) A c:=by
      refine⟨?_,hB7,H4.out.2.2.2.1.chg hc47 (fun e=>e.elim (fun e=>hg2p e) fun e=>HO.out.ne e.symm),(yP4 H4.out).1.chg hc47 (fun j hj e=>e.elim (fun e=>hpf (e▸hj)) fun e=>hpg1 (e▸hj)),HO.out.ne,⟨HO.out.new,HO.out.t1.new,HO.out.t2.new,HO.out.pool.new⟩,Chg.trans H4.out.1 hc47 fun j hj e=>by have h1:=HO.out.new;have h2:=HO.out.t1.new;rcases e with e | e<;>omega⟩
      have:=hpb7;rw[←Hpl.out] at this;simpa using this
     have HLJ:=yH hL;refine hK.out _ _ hS7 (fun _=>?_);clear hK K;(try simp only[Act.put,lZ])
     refine wpAnyH_done (by kernel_rfl) ?_ _;clear hpI hHeld hS0 hS7 hg1p hg2p ht16 hs46 hsp hc7 hpb7 hb87 hpf hpg1 hc47 hL hcp hB7 hg7;have hD1:=H.out.1.grew HG1.out;have hT64':pg.length≤64:=by rw[Hpl.out];exact hT64
     obtain⟨c1,f1,s1⟩:=HLJ.out.blk.facts;go_wp2_with fail
     clear c1 f1 s1;go_loopg [87] (pg.length) (fun n iv wr=>∃ (k:Nat) (tbl:List Nat) (fe:List Bool),n=pg.length - k∧k≤pg.length∧iv= .int .i64 k∧LoJ w1 wr p d (D.sz / 2) g1 g2 b pg.length (capN D.n D.sz) ep pg tbl fe A c∧Q k tbl fe)
     case atStart=>exact⟨0,_,_,rfl,Nat.zero_le _,rfl,HLJ.out,(yP6 H4.out).1⟩
     case round=>
      obtain⟨k,tbl,fe,rfl,hk,rfl,hJ,hq⟩:=hrel;by_cases hlt:k< pg.length
      ·have hst:=(yP4 H.out).1 p g1 g2 b A c k tbl fe w1 wr hJ hD1 hq hlt
       have HS:=yH hst;have hkI:(k:Int)< (pg.length:Int):=by omega
       clear hst hJ hq;go_wp2_with fail
       refine HS.out.mono ?_;rintro e w8 ⟨rfl,tbl',fe',hJ8,hq8⟩;have H8:=yH (yA hJ8 hq8);clear hJ8 hq8;go_wp2_with fail
       go_roundg (pg.length - (k+1))
       case measure=>omega
       case rel=>exact⟨k+1,tbl',fe',rfl,by omega,by simp,H8.out.1,H8.out.2⟩
      ·obtain rfl:k=pg.length:=by omega
       have HJ:=yH (yA hJ hq);clear hJ hq hlt hk;go_wp2_with fail
       go_ret2
       have hsz:=HG1.out.size;have htl:=(yP4 H.out).2 _ _ _ HJ.out.2;have hJe:=HJ.out.1;rw[←htl] at hJe
       obtain⟨F',hF,hnew⟩:=gmade_mk (w0:=w1) (hD1.grew hJe.gr) (fun j hj=>Nat.lt_of_lt_of_le (H.out.1.lt j hj) hsz) h0 (Nat.lt_of_lt_of_le (tab_pos H.out.2.1) hsz) (tab_chg (tab_chg H.out.2.1 HG1.out id) hJe.gr id) (by omega) (by rw[htl];omega)
        hJe.blk hJe.t1 hJe.t2 hJe.ne hJe.pool hJe.new.1 hJe.new.2.1 hJe.new.2.2.1 hJe.new.2.2.2
       exact⟨p,F',rfl,.inr ⟨he1,tbl,fe,HJ.out.2,hF⟩,Grew.trans HG1.out hJe.gr,fun j hj=>(hnew j hj).imp id fun e=>Nat.le_trans hsz e⟩
theorem gopen_new (d:Nat) (F:Nat→Prop) (D:Dk) (w:World) (h:DS w d F D) (hd:D.down=false) (hT:TabAt 0 tab w) (h0:¬F 0) (hn:8≤D.n) (hz:64≤D.sz) (hp:∀i:Nat,i< 2→partL ((D.rd i).take (D.sz - 8))=none) (hby:∀i:Nat,i< 2→∀x∈D.rd i,0≤x∧x≤255) :
  Calls prog 33 #[.pointer (some ⟨d,0,none⟩)] w fun e w'=>∃p F',e= .returned (.tuple #[.pointer (some ⟨p,0,none⟩),.int .i64 0])∧GS w' p F' (Gp.fresh D)∧Grew w w'∧∀j,F' j→F j∨w.heap.size≤j:=by
 refine(gopen_gen d F D w (fun _ tbl _=>tbl.length=capN D.n D.sz) 0 [] h hd hT h0 hn hz (fun W hW=>?_) (fun e=>by omega) (by omega) (fun p g1 g2 b A c k tbl fe w0 W _ _ _ hk=>by simp at hk) (fun _ _ _ e=>e)).mono ?_
 ·refine(load_none d F D W hW hd (by omega) (by omega) hp hby).mono ?_
  rintro e w' ⟨rfl,hg⟩;exact⟨hg,.inl ⟨rfl,rfl⟩⟩
 ·rintro e w' ⟨p,F',rfl,⟨-,hF⟩ | ⟨he, -⟩,hg,hnw⟩
  ·exact⟨p,F',rfl,hF,hg,hnw⟩
  ·omega
end
section
open Go.RowKit Go.Maps
def Rp.fresh (n sz:Nat) (d:Nat:=0):Rp:= { n:=n,sz:=sz,now:=List.replicate (capN n sz) .no,was:=none,touched:=fun _=>false,epoch:=0,d:=d }
theorem rootL_zeros {ep m:Nat} {pg:List Nat} {sz:Nat} (h1:1≤ep) (h2:ep≤1099511627776) (he:List.replicate m 0=rootL ep pg sz):False:=by
 have hz:∀x∈tail8 ep,x=0:=fun x hx=>by
  have:x∈rootL ep pg sz:=List.mem_append_right _ hx;rw[←he] at this;exact(List.mem_replicate.1 this).2
 have e0:=hz ((ep / 1099511627776 % 256:Nat):Int) (by simp[tail8]);have e1:=hz ((ep / 4294967296 % 256:Nat):Int) (by simp[tail8]);have e2:=hz ((ep / 16777216 % 256:Nat):Int) (by simp[tail8]);have e3:=hz ((ep / 65536 % 256:Nat):Int) (by simp[tail8]);have e4:=hz ((ep / 256 % 256:Nat):Int) (by simp[tail8]);have e5:=hz ((ep % 256:Nat):Int) (by simp[tail8])
 omega
theorem rep_at {n i s:Nat} (h:(List.replicate n 0)[i]? =some s):s=0:=by
 rw[List.getElem?_replicate] at h;split at h<;>simp at h
 exact h.symm
theorem rep_getD (n i:Nat):(List.replicate n 0).getD i 0=0:=by
 rw[List.getD_eq_getElem?_getD]
 cases h:(List.replicate n 0)[i]? with
 | none=>rfl
 | some s=>rw[rep_at h];rfl
theorem Gp.fresh_ok (n sz d:Nat) (D:Dk) (hD:D=⟨n,sz,fun _=>List.replicate sz 0,fun _=>none,false,0,false,0,d⟩) (h:8≤n∧n≤4096∧64≤sz∧sz≤4096):(Gp.fresh D).Ok∧(Gp.fresh D).view=Rp.fresh n sz d:=by
 subst hD;have hm:∀s,s< n→(mkd n 2).getD s false=decide (2≤s):=fun s hs=>by rw[mkd_at n 2 s (by omega)];simp[hs]
 have hcap:capN n sz≤4096:=by unfold capN;split<;>omega
 refine⟨⟨⟨h,⟨mkd_len n 2,by simp[Gp.fresh],by simp[Gp.fresh],by simp[Gp.fresh,Gp.old]⟩,fun i s hi=>?_,fun k s hk h0=>absurd (rep_at hk) h0,fun i j s hi _ h2=>?_,fun i j s hi _ h0=>absurd (rep_at hi) h0,fun k i s hk _=>?_,fun s hs=>?_,fun s hs=>?_,fun i s hi h2=>?_,fun i j s hi _ h2=>?_,⟨List.nodup_nil,fun s=>?_⟩,fun i hi=>absurd rfl hi,fun k hk=>?_,?_,fun s _ _=>rfl,⟨fun e=>?_,fun i e' pg' _ hg _ hr=>?_,fun _ s hs=>(List.mem_replicate.1 hs).2,fun k _ i _=>rep_getD _ _,fun k s hk h0=>absurd (rep_at hk) h0,fun k s hk h0=>absurd (rep_at hk) h0⟩,fun s _ x hx=>?_,Nat.zero_le _,fun s _ x hx=>?_⟩,rfl,⟨rfl,rfl,rfl⟩⟩,?_⟩
 ·have:=rep_at hi;show s< n;omega
 ·have:=rep_at hi;omega
 ·have:=rep_at hk;omega
 ·show(mkd n 2).getD s false=false↔_
  rw[hm s hs];constructor
  ·intro e;left;simpa using e
  ·rintro(e | ⟨k,e⟩ | ⟨k,e⟩ | e)
   ·simpa using e
   ·have:=rep_at e;simp;omega
   ·have:=rep_at e;simp;omega
   ·simp[Gp.fresh,Gp.fr] at e
 ·simp[Gp.fresh,Gp.fr] at hs
 ·have:=rep_at hi;omega
 ·have:=rep_at hi;omega
 ·simp only[Gp.fresh,Gp.lf,List.not_mem_nil,false_iff,not_and,not_exists]
  rintro h2 i hi;have:=rep_at hi;omega
 ·simp[Gp.fresh,Gp.tc] at hk
 ·rw[show(Gp.fresh _).tc=fun _=>false from rfl,show cntN (fun _=>false) 64=0 from cntN_false fun _ _=>rfl]
  exact Nat.zero_le _
 ·simp[Gp.fresh] at e
 ·exact(rootL_zeros hg.1 hg.2.1 (show List.replicate sz 0=_ from hr)).elim
 ·have:x=0:=(List.mem_replicate.1 (show x∈List.replicate sz 0 from hx)).2
  omega
 ·have:x=0:=(List.mem_replicate.1 (show x∈List.replicate sz 0 from hx)).2
  omega
 ·simp[Gp.view,Rp.fresh,Gp.fresh,Gp.fr,Gp.tc,pk]
theorem gp_open_new (n sz d:Nat) (F:Nat→Prop) (w:World) (h:DS w d F ⟨n,sz,fun _=>List.replicate sz 0,fun _=>none,false,0,false,0,d⟩) (hT:TabAt 0 tab w) (h0:¬F 0) (hn:8≤n) (hz:64≤sz) :
  Calls prog 33 #[.pointer (some ⟨d,0,none⟩)] w fun e w'=>∃p F',e= .returned (.tuple #[.pointer (some ⟨p,0,none⟩),.int .i64 0])∧GP w' p F' (Rp.fresh n sz d)∧Grew w w'∧∀j,F' j→F j∨w.heap.size≤j:=by
 have hs:=h.sml;have hsz:64≤sz∧sz≤4096:=⟨hz,hs.2.2.2⟩;have hnn:n≤4096:=hs.2.1;have hfo:=Gp.fresh_ok n sz d _ rfl ⟨hn,hnn,hsz⟩;refine(gopen_new d F _ w h rfl hT h0 hn hz (fun i _=>?_) (fun i _ x hx=>?_)).mono ?_
 ·show partL (List.take (sz - 8) (List.replicate sz 0))=none
  rw[List.take_replicate,Nat.min_eq_left (by omega)];exact part_zeros _ (by omega) (by omega)
 ·have:x=0:=(List.mem_replicate.1 (show x∈List.replicate sz 0 from hx)).2
  omega
 ·rintro e w' ⟨p,F',rfl,h1,h2,h3⟩
  exact⟨p,F',rfl,⟨_,h1,hfo.1,hfo.2⟩,h2,h3⟩
end
section
open Go.RowKit Go.Maps
def Rp.opened (n sz:Nat) (d:Nat:=0):Rp:=(Rp.fresh n sz d).begun
def Rp.tree0 (n sz r:Nat) (d:Nat:=0):Rp:=((Rp.opened n sz d).put r .zero).put r (.new (ndL nd0 sz))
def FrOut (w w':World) (n sz:Nat) (e:Ending):Prop:=
 ∃t p d r F,e= .returned (.tuple #[.pointer (some ⟨t,0,none⟩),.pointer (some ⟨p,0,none⟩),.pointer (some ⟨d,0,none⟩)])∧r< capN n sz∧BT w' t p r F (Rp.tree0 n sz r d)∧Grew w w'∧(∀j,F j→w.heap.size≤j)∧w.heap.size≤t
theorem bfresh_any (n sz:Nat) (w:World) (hT:TabAt 0 tab w) (h1:8≤n) (h2:n≤4096) (h3:64≤sz) (h4:sz≤4096) (hs:1≤(Rp.opened n sz).slack) (hc:0< capN n sz) :
  Calls prog 10 #[.int .i64 n,.int .i64 sz] w fun e w'=>FrOut w w' n sz e:=by
 have H:=yH (yA3 hT hs hc);clear hT hs hc;go_enter func10,ntmps10
 go_wp2_with fail
 refine(dnew_any n sz _ (by omega) h2 (by omega) h4).mono ?_;rintro e w1 ⟨d,F1,rfl,hd,hg1,hn1⟩;have hT1:=tab_chg H.out.1 hg1 id;have hF0:¬F1 0:=fun e=>by have:=hn1 0 e;have:=tab_pos H.out.1;omega
 have H1:=yH (yA5 hd hg1 hn1 hT1 hF0);clear hd hg1 hn1 hT1 hF0;go_wp2_with fail
 refine(gp_open_new n sz d F1 w1 H1.out.1 H1.out.2.2.2.1 (yP4 H1.out) h1 h3).mono ?_;rintro e w2 ⟨p,F2,rfl,hp,hg2,hn2⟩;have H2:=yH (yA3 hp (Grew.trans H1.out.2.1 hg2) (fun j hj=>show w.heap.size≤j from(hn2 j hj).elim (H1.out.2.2.1 j) fun e=>Nat.le_trans H1.out.2.1.size e));clear hp hg2 hn2;go_wp2_with fail
 refine(gp_begin p F2 _ w2 H2.out.1 rfl).mono ?_;rintro e w3 ⟨rfl,F3,k1,k2,k3⟩;have hg3:Grew w w3:=Chg.trans H2.out.2.1 k2 fun i hi e=>by have:=H2.out.2.2 i e;omega
 have hn3:∀j,F3 j→w.heap.size≤j:=fun j hj=>(k3 j hj).elim (H2.out.2.2 j) fun e=>Nat.le_trans H2.out.2.1.size e;have hcap:=H.out.2.2
 have hno:Pk.no∈(Rp.opened n sz d).now:=by
  simp only[Rp.opened,Rp.begun,Rp.fresh];exact List.mem_replicate.2 ⟨by omega,rfl⟩
 have hnw:=bnew_any p F3 (Rp.opened n sz d) w3 k1 (by simp[Rp.opened,Rp.begun]) H.out.2.1 hno;have H3:=yH (yA3 hnw hg3 hn3);clear k1 k2 k3 hg3 hn3 hno hnw hcap;go_wp2_with fail
 refine H3.out.1.mono ?_;rintro e w4 ⟨t,r,F4,rfl,hr,hb,hc4,hn4,ht⟩;have hsz3:=H3.out.2.1.size;have H4:=yH (yA5 hr hb (show Grew w w4 from Chg.trans H3.out.2.1 hc4 fun i hi e=>by have:=H3.out.2.2 i e;omega) (fun j hj=>show w.heap.size≤j from(hn4 j hj).elim (H3.out.2.2 j) fun e=>by omega) (show w.heap.size≤t by omega));clear hr hb hc4 hn4 ht hsz3;go_wp2_with fail
 refine bodyPost_ret (v:= .tuple #[.pointer (some ⟨t,0,none⟩),.pointer (some ⟨p,0,none⟩),.pointer (some ⟨d,0,none⟩)]) (by simp[results,results10,go_sem]) rfl ?_;refine⟨t,p,d,r,F4,rfl,?_,H4.out.2.1,H4.out.2.2.1,H4.out.2.2.2.1,(yP4 H4.out)⟩;have:=(List.getElem?_eq_some_iff.1 H4.out.1).1;simpa [Rp.opened,Rp.begun,Rp.fresh] using this
theorem tree0_tr {n sz r d:Nat} (hr:r< capN n sz) (hz:sz≤4096):Tr (Rp.tree0 n sz r d).nd (halfN sz) 0 r [] [r]:=by
 refine⟨nd0,?_,rfl,rfl,Nat.zero_le _,rfl,rfl⟩;have hl:r< ((Rp.opened n sz d).put r .zero).now.length:=by rw[Rp.put_len];simpa [Rp.opened,Rp.begun,Rp.fresh] using hr
 exact Rp.nd_new (nd0_fit _) hl hz
theorem tree0_used {n sz r d:Nat} (hr:r< capN n sz):(Rp.tree0 n sz r d).now.countP Pk.used=1:=by
 have hl:r< (Rp.opened n sz d).now.length:=by simpa [Rp.opened,Rp.begun,Rp.fresh] using hr
 have h0:(Rp.opened n sz d).now[r]? =some .no:=by
  simp only[Rp.opened,Rp.begun,Rp.fresh] at hl ⊢;rw[List.getElem?_eq_getElem hl,List.getElem_replicate]
 have h1:=Rp.put_used (c:= .zero) h0;have h2:=Rp.put_used (x:=(Rp.opened n sz d).put r .zero) (c:= .new (ndL nd0 sz)) (c0:= .zero) (i:=r) (by rw[Rp.put_at hl,if_pos rfl])
 have h3:(Rp.opened n sz d).now.countP Pk.used=0:=by
  simp only[Rp.opened,Rp.begun,Rp.fresh];rw[List.countP_replicate];simp[Pk.used]
 simp[Pk.used] at h1 h2
 unfold Rp.tree0;rw[h2,h1,h3]
end
section
open Go.RowKit Go.Maps
def Rp.roomy (x:Rp) (K:Nat):Prop:=x.was≠none∧(K:Int)+1≤x.slack+x.now.countP Pk.isNew∧K< x.now.length
theorem Rp.like.vol {x y:Rp} (h:x.like y) (hw:x.was≠none):y.slack+y.now.countP Pk.isNew=x.slack+x.now.countP Pk.isNew:=by
 have hb:y.base=x.base:=by
  unfold Rp.base;rw[h.was]
  cases hx:x.was with
  | none=>exact absurd hx hw
  | some b=>rfl
 unfold Rp.slack Rp.free;rw[hb,h.n,h.sz];omega
theorem new_used (l:List Pk):l.countP Pk.isNew≤l.countP Pk.used:=List.countP_mono_left fun c _ h=>by cases c<;>simp_all [Pk.isNew,Pk.used]
theorem no_mem {l:List Pk} (h:l.countP Pk.used< l.length):Pk.no∈l:=by
 refine Classical.byContradiction fun hn=>?_
 have:l.countP Pk.used=l.length:=List.countP_eq_length.2 fun c hc=>by
  cases c with
  | no=>exact absurd hc hn
  | _=>rfl
 omega
theorem never_full {x z:Rp} {K:Nat} (hr:x.roomy K) (hl:x.like z) (hu:z.now.countP Pk.used≤K):1≤z.slack∧Pk.no∈z.now:=by
 have h1:=hl.vol hr.1;have h2:=new_used z.now;have h3:=hl.len;exact⟨by have:=hr.2.1;omega,no_mem (by have:=hr.2.2;omega)⟩
def PuOk (w w':World) (t p root:Nat) (F:Nat→Prop) (x0:Rp) (k v:Int) (L:List KV) (e:Ending):Prop:=
 e= .returned (.int .i64 0)∧∃y F' D P,BT w' t p root F' y∧Rch F F' w w'∧x0.like y∧TS y D root (putL L k v) P
theorem put_sure {w w':World} {t p root D K:Nat} {F:Nat→Prop} {x0 x:Rp} {k v:Int} {L:List KV} {P:List Nat} {e:Ending} (h:PuOut w w' t p root F x D k v L e) (hr:x0.roomy K) (hl:x0.like x) (hs:TS x D root L P) (hh:2≤halfN x.sz) (hK:L.length+3≤K):PuOk w w' t p root F x0 k v L e:=by
 rcases h with ⟨rfl,y,F',D',P',h1,h2,h3,h4⟩ | ⟨rfl,z, -,h2,h3,h4⟩
 ·exact⟨rfl,y,F',D',P',h1,h2,hl.trans h3,h4⟩
 ·exact absurd (never_full hr (hl.trans h2) (by have:=hs.used;have:=hs.tr.pages hh;omega)) h4
theorem TS.depth2 {x:Rp} {D root:Nat} {L:List KV} {P:List Nat} (h:TS x D root L P) (hh:2≤halfN x.sz) (hl:L.length≤2):D=0:=by
 rcases h.tr.deep hh with e | e
 ·exact e
 ·by_cases hD:D=0
  ·exact hD
  ·have:2 ^ 2≤2 ^ (D+1):=Nat.pow_le_pow_right (by omega) (by omega)
   omega
theorem tree0_ts {n sz r d:Nat} (hr:r< capN n sz) (hz:sz≤4096):TS (Rp.tree0 n sz r d) 0 r [] [r]:=⟨tree0_tr hr hz,by simp,List.Pairwise.nil,tree0_used hr⟩
theorem tree0_like {n sz r d:Nat}:(Rp.opened n sz d).like (Rp.tree0 n sz r d):=(Rp.put_like _ _ _).trans (Rp.put_like _ _ _)
theorem opened12:(Rp.opened 12 64).slack=9∧capN 12 64=10∧(Rp.opened 12 64).now.countP Pk.isNew=0:=⟨by kernel_rfl,by kernel_rfl,by kernel_rfl⟩
theorem opened_len (n sz:Nat):(Rp.opened n sz).now.length=capN n sz:=by simp[Rp.opened,Rp.begun,Rp.fresh]
theorem roomy12 {d:Nat}:(Rp.opened 12 64 d).roomy 7:=show(Rp.opened 12 64).roomy 7 from⟨by simp[Rp.opened,Rp.begun],by rw[opened12.1,opened12.2.2];omega,by rw[opened_len,opened12.2.1];omega⟩
end
section
end
section
open Go.RowKit Go.Maps
theorem bindex_no (l:List Int) (x:Int) (A:Option Addr) (c:Nat) (w:World) (hs:Sl w 1 A l.length (l.map (Value.int .i64))) (hl:l.length≤100000) (hx:x∉l) :
  Calls prog 55 #[.slice A l.length c,.int .i64 x] w fun e w'=>e= .returned (.int .i64 (-1))∧w'=w:=by
 have H:=yH (yA hs hx);clear hs hx;go_enter func55,ntmps55
 go_wp2_with fail
 go_loopg [8] (l.length) (fun n iv wr=>∃k:Nat,n=l.length - k∧k≤l.length∧iv= .int .i64 k∧wr=w)
 case atStart=>exact⟨0,by simp,Nat.zero_le _,rfl,rfl⟩
 case round=>
  obtain⟨k,rfl,hk,rfl,hwr⟩:=hrel;replace hwr:=hwr.symm;subst hwr;by_cases hlt:k< l.length
  ·obtain⟨a,ha⟩:∃a,l[k]? =some a:=⟨_,List.getElem?_eq_getElem hlt⟩
   obtain⟨g,off,rfl,hgl,hc⟩:=H.out.1.2 (by omega);have hck:w.cell? ⟨g,off+k,none⟩=some (.int .i64 a):=hc k _ (by simp[ha])
   have hne:(x==a)=false:=by
    have:x≠a:=fun e=>H.out.2 (e▸List.mem_of_getElem? ha);simpa using this
   have hkI:(k:Int)< (l.length:Int):=by omega
   clear ha hgl hc;go_wp2_with fail
   go_roundg (l.length - (k+1))
   case measure=>omega
   case rel=>exact⟨k+1,rfl,by omega,by simp,rfl⟩
  ·obtain rfl:k=l.length:=by omega
   clear hlt hk;go_wp2_with fail
   go_ret
   exact⟨rfl,rfl⟩
theorem bcontains_no (l:List Int) (x:Int) (A:Option Addr) (c:Nat) (w:World) (hs:Sl w 1 A l.length (l.map (Value.int .i64))) (hl:l.length≤100000) (hx:x∉l) :
  Calls prog 73 #[.slice A l.length c,.int .i64 x] w fun e w'=>e= .returned (.bool false)∧w'=w:=by
 have H:=yH (bindex_no l x A c w hs hl hx);clear hs hx;go_enter func73,ntmps73
 go_wp2_with fail
 refine H.out.mono ?_;rintro e w1 ⟨rfl,rfl⟩;go_wp2_with fail
 go_ret
 exact⟨rfl,rfl⟩
end
section
section
variable {R R':Nat→List KV→List Nat→Prop} {ks ka kb:List Nat} {kv va vb L M A B:List KV} {P PA PB PM:List Nat}
theorem Fr.cat (h:Fr R ka va L P):∀ {kb:List Nat} {vb M:List KV} {PM:List Nat} {k:KV},Fr R kb vb M PM→Fr R (ka++kb) (va++k :: vb) (L++k :: M) (P++PM):=by
 induction h with
 | one h1=>intro kb vb M PM k h;exact .cons h1 h
 | @cons q1 M1 P1 k1 ks1 kv1 L1 P2 h1 _ ih=>
  intro kb vb M PM k h;have:=Fr.cons (k:=k1) h1 (ih (k:=k) h);simpa [List.append_assoc] using this
theorem Fr.single {q:Nat} (h:Fr R [q] [] M PM):R q M PM:=by
 generalize hK:[q]=K at h
 generalize hV:([]:List KV)=V at h
 cases h with
 | one h1=>cases hK;exact h1
 | cons h1 h2=>cases hV
theorem Fr.pair (h:Fr R ks kv L P) {j q1 q2:Nat} {s:KV} (h1:ks[j]? =some q1) (h2:ks[j+1]? =some q2) (h3:kv[j]? =some s) :
  ∃A PA M1 P1 M2 P2 B PB,Pre R (ks.take j) (kv.take j) A PA∧R q1 M1 P1∧R q2 M2 P2∧Suf R (ks.drop (j+2)) (kv.drop (j+1)) B PB∧L=A++(M1++s :: M2)++B∧P=PA++(P1++P2)++PB:=by
 have l1:=(List.getElem?_eq_some_iff.1 h2).1;have l3:=(List.getElem?_eq_some_iff.1 h3).1
 have e1:ks=ks.take j++[q1,q2]++ks.drop (j+2):=by
  have:=at_split h1;have h4:=at_split h2;rw[List.take_add_one,h1] at h4;simpa using h4
 have e2:kv=kv.take j++[s]++kv.drop (j+1):=by
  have:=at_split h3;simpa using this
 rw[e1,e2] at h;obtain⟨A,PA,M,PM,B,PB,g1,g2,g3,rfl,rfl⟩:=h.focus (by rw[List.length_take,List.length_take];omega) rfl;obtain⟨M1,P1,M2,P2,t1,t2,rfl,rfl⟩:=g2.inv;exact⟨A,PA,M1,P1,M2,P2,B,PB,g1,t1,t2.single,g3,rfl,rfl⟩
theorem Fr.repair {j q1 q2:Nat} {s:KV} {M1 M2:List KV} {P1 P2:List Nat} (h1:ks[j]? =some q1) (h2:ks[j+1]? =some q2) (h3:j< kv.length) (g1:Pre R (ks.take j) (kv.take j) A PA) (t1:R q1 M1 P1) (t2:R q2 M2 P2) (g3:Suf R (ks.drop (j+2)) (kv.drop (j+1)) B PB) :
  Fr R ks (kv.set j s) (A++(M1++s :: M2)++B) (PA++(P1++P2)++PB):=by
 have hb:=Fr.build g1 (Fr.cons (k:=s) t1 (Fr.one t2)) g3
 have e1:ks=ks.take j++[q1,q2]++ks.drop (j+2):=by
  have h4:=at_split h2;rw[List.take_add_one,h1] at h4;simpa using h4
 have e2:kv.set j s=kv.take j++[s]++kv.drop (j+1):=by
  rw[List.set_eq_take_append_cons_drop,if_pos h3];simp
 rw[e2];conv=>arg 2;rw[e1]
 exact hb
theorem Fr.joined {j q1 q2:Nat} {M1:List KV} {P1:List Nat} (h1:ks[j]? =some q1) (h2:ks[j+1]? =some q2) (g1:Pre R (ks.take j) (kv.take j) A PA) (t1:R q1 M1 P1) (g3:Suf R (ks.drop (j+2)) (kv.drop (j+1)) B PB) :
  Fr R (ks.eraseIdx (j+1)) (kv.eraseIdx j) (A++M1++B) (PA++P1++PB):=by
 have hb:=Fr.build g1 (Fr.one t1) g3
 have e1:ks.eraseIdx (j+1)=ks.take j++[q1]++ks.drop (j+2):=by
  rw[List.eraseIdx_eq_take_drop_succ,List.take_add_one,h1];simp
 have e2:kv.eraseIdx j=kv.take j++[]++kv.drop (j+1):=by
  rw[List.eraseIdx_eq_take_drop_succ];simp
 rw[e1,e2];exact hb
end
def Nd.cutL (nd:Nd):Nd:=⟨nd.keys.take (nd.keys.length - 1),nd.vals.take (nd.keys.length - 1),nd.kids.take nd.keys.length⟩
def Nd.cutF (nd:Nd):Nd:=⟨nd.keys.drop 1,nd.vals.drop 1,nd.kids.drop 1⟩
def Nd.addF (nd:Nd) (k v:Int) (c:List Nat):Nd:=⟨k :: nd.keys,v :: nd.vals,c++nd.kids⟩
def Nd.addL (nd:Nd) (k v:Int) (c:List Nat):Nd:=⟨nd.keys++[k],nd.vals++[v],nd.kids++c⟩
def Nd.one (a b:Nd) (k v:Int):Nd:=⟨a.keys++k :: b.keys,a.vals++v :: b.vals,a.kids++b.kids⟩
theorem Nd.one_kvs {a b:Nd} (h:a.vals.length=a.keys.length) (k v:Int):(a.one b k v).kvs=a.kvs++(k,v) :: b.kvs:=by
 unfold Nd.one Nd.kvs;rw[List.zip_append h.symm,List.zip_cons_cons]
theorem Nd.addF_kvs (nd:Nd) (k v:Int) (c:List Nat):(nd.addF k v c).kvs=(k,v) :: nd.kvs:=rfl
theorem Nd.addL_kvs {nd:Nd} (h:nd.vals.length=nd.keys.length) (k v:Int) (c:List Nat):(nd.addL k v c).kvs=nd.kvs++[(k,v)]:=by
 unfold Nd.addL Nd.kvs;rw[List.zip_append h.symm];rfl
theorem Nd.cutL_kvs (nd:Nd):nd.cutL.kvs=nd.kvs.take (nd.keys.length - 1):=zip_take _ _ _
theorem Nd.cutF_kvs (nd:Nd):nd.cutF.kvs=nd.kvs.drop 1:=zip_drop _ _ _
section
variable {rd rd':Nat→Option Nd} {h d q1 q2:Nat} {M1 M2:List KV} {P1 P2:List Nat} {a b:Nd} {k v:Int}
theorem Tr.merge {q:Nat} (t1:Tc rd h d q1 M1 P1) (t2:Tc rd h d q2 M2 P2) (ha:rd q1=some a) (hb:rd q2=some b) (hl:a.keys.length+b.keys.length+1≤2*h - 1) (hq:rd' q=some (a.one b k v)) (hr:∀i∈P1++P2,i≠q1→i≠q2→rd' i=rd i) (hn:(P1++P2).Nodup) :
  ∃P',Tr rd' h d q (M1++(k,v) :: M2) (q :: P')∧(q1 :: q2 :: P').Perm (P1++P2):=by
 have l1:(a.one b k v).keys.length=a.keys.length+b.keys.length+1:=by simp[Nd.one];omega
 cases d with
 | zero=>
  obtain⟨⟨n1,g1,g2,g3,g4,rfl,rfl⟩, -⟩:=t1;obtain⟨⟨n2,k1,k2,k3,k4,rfl,rfl⟩, -⟩:=t2;rw[ha] at g1;cases g1;rw[hb] at k1;cases k1
  exact⟨[],⟨_,hq,by simp[Nd.one,g2,k2],by simp[Nd.one];omega,by omega,(Nd.one_kvs g3 k v).symm,rfl⟩,List.Perm.refl _⟩
 | succ d=>
  obtain⟨⟨n1,Q1,g1,g2,g3,g4,g5,rfl⟩, -⟩:=t1;obtain⟨⟨n2,Q2,k1,k2,k3,k4,k5,rfl⟩, -⟩:=t2;rw[ha] at g1;cases g1;rw[hb] at k1;cases k1;have hn1:=List.nodup_append.1 hn;have hn2:=List.nodup_cons.1 hn1.1;have hn3:=List.nodup_cons.1 hn1.2.1
  have f1:Fr (fun q L P=>Tr rd' h d q L P∧h - 1≤nk rd' q) a.kids a.kvs M1 Q1:=g5.mono fun c M Q hc hQ=>Tc.frame hc fun i hi=>hr i (by simp[hQ i hi]) (fun e=>hn2.1 (e▸hQ i hi)) fun e=>hn1.2.2 i (List.mem_cons_of_mem _ (hQ i hi)) q2 List.mem_cons_self e
  have f2:Fr (fun q L P=>Tr rd' h d q L P∧h - 1≤nk rd' q) b.kids b.kvs M2 Q2:=k5.mono fun c M Q hc hQ=>Tc.frame hc fun i hi=>hr i (by simp[hQ i hi]) (fun e=>hn1.2.2 q1 List.mem_cons_self i (List.mem_cons_of_mem _ (hQ i hi)) e.symm) fun e=>hn3.1 (e▸hQ i hi);refine⟨Q1++Q2,⟨_,Q1++Q2,hq,by simp[Nd.one];omega,by omega,by omega,?_,rfl⟩,?_⟩
  ·rw[Nd.one_kvs g2]
   exact f1.cat f2
  ·have:(q1 :: q2 :: (Q1++Q2)).Perm (q1 :: (Q1++q2 :: Q2)):=List.Perm.cons _ List.perm_middle.symm
   exact this
end
end
section
section
variable {rd rd':Nat→Option Nd} {h d q1 q2:Nat} {M1 M2:List KV} {P1 P2:List Nat} {a b:Nd} {k v:Int}
theorem two_frames {Q1 Q2:List Nat} (hn:(q1 :: Q1++q2 :: Q2).Nodup) (hr:∀i∈q1 :: Q1++q2 :: Q2,i≠q1→i≠q2→rd' i=rd i)
  (g5:Fr (fun q L P=>Tr rd h d q L P∧h - 1≤nk rd q) a.kids a.kvs M1 Q1) (k5:Fr (fun q L P=>Tr rd h d q L P∧h - 1≤nk rd q) b.kids b.kvs M2 Q2) :
  Fr (fun q L P=>Tr rd' h d q L P∧h - 1≤nk rd' q) a.kids a.kvs M1 Q1∧Fr (fun q L P=>Tr rd' h d q L P∧h - 1≤nk rd' q) b.kids b.kvs M2 Q2:=by
 have hn1:=List.nodup_append.1 hn;have hn2:=List.nodup_cons.1 hn1.1;have hn3:=List.nodup_cons.1 hn1.2.1
 exact⟨g5.mono fun c M Q hc hQ=>Tc.frame hc fun i hi=>hr i (by simp[hQ i hi]) (fun e=>hn2.1 (e▸hQ i hi)) fun e=>hn1.2.2 i (List.mem_cons_of_mem _ (hQ i hi)) q2 List.mem_cons_self e,
  k5.mono fun c M Q hc hQ=>Tc.frame hc fun i hi=>hr i (by simp[hQ i hi]) (fun e=>hn1.2.2 q1 List.mem_cons_self i (List.mem_cons_of_mem _ (hQ i hi)) e.symm) fun e=>hn3.1 (e▸hQ i hi)⟩
theorem Tr.fromLeft (t1:Tc rd h d q1 M1 P1) (t2:Tc rd h d q2 M2 P2) (ha:rd q1=some a) (hb:rd q2=some b) (hh:2≤h) (h1:h≤a.keys.length) (h2:b.keys.length+1≤2*h - 1)
  (hq1:rd' q1=some a.cutL) (hq2:rd' q2=some (b.addF k v (a.kids.drop a.keys.length))) (hr:∀i∈P1++P2,i≠q1→i≠q2→rd' i=rd i) (hn:(P1++P2).Nodup) :
  ∃k1 v1 M1' M2' P1' P2',a.keys[a.keys.length - 1]? =some k1∧a.vals[a.keys.length - 1]? =some v1∧Tc rd' h d q1 M1' P1'∧Tc rd' h d q2 M2' P2'∧M1++(k,v) :: M2=M1'++(k1,v1) :: M2'∧(P1'++P2').Perm (P1++P2):=by
 have hbk:h - 1≤b.keys.length:=by have:=t2.2;rwa[nk_eq hb] at this
 have lc:a.cutL.keys.length=a.keys.length - 1:=by simp[Nd.cutL]
 have ld:(b.addF k v (a.kids.drop a.keys.length)).keys.length=b.keys.length+1:=by simp[Nd.addF]
 have o1:h - 1≤nk rd' q1:=by rw[nk_eq hq1,lc];omega
 have o2:h - 1≤nk rd' q2:=by rw[nk_eq hq2,ld];omega
 have hvl:a.vals.length=a.keys.length:=by
  obtain⟨n',g1,g2, -⟩:=t1.1.node;rw[ha] at g1;cases g1;exact g2
 obtain⟨k1,hk1⟩:∃k1,a.keys[a.keys.length - 1]? =some k1:=⟨_,List.getElem?_eq_getElem (by omega)⟩;obtain⟨v1,hv1⟩:∃v1,a.vals[a.keys.length - 1]? =some v1:=⟨_,List.getElem?_eq_getElem (by omega)⟩;have hkv:=at_split (kvs_at hvl hk1 hv1);rw[show a.keys.length - 1+1=a.keys.length by omega,List.drop_eq_nil_of_le (by rw[kvs_len hvl];exact Nat.le_refl _)] at hkv
 cases d with
 | zero=>
  obtain⟨⟨n1,g1,g2,g3,g4,rfl,rfl⟩, -⟩:=t1;obtain⟨⟨n2,c1,c2,c3,c4,rfl,rfl⟩, -⟩:=t2;rw[ha] at g1;cases g1;rw[hb] at c1;cases c1
  refine⟨k1,v1,_,_,[q1],[q2],hk1,hv1,⟨⟨_,hq1,by simp[Nd.cutL,g2],by simp[Nd.cutL,g3],by omega,(Nd.cutL_kvs a).symm,rfl⟩,o1⟩,⟨⟨_,hq2,by simp[Nd.addF,g2,c2],by simp[Nd.addF,c3],by omega,(Nd.addF_kvs b k v _).symm,rfl⟩,o2⟩,?_,List.Perm.refl _⟩;conv=>lhs;rw[hkv]
  simp
 | succ d=>
  obtain⟨⟨n1,Q1,g1,g2,g3,g4,g5,rfl⟩, -⟩:=t1;obtain⟨⟨n2,Q2,c1,c2,c3,c4,c5,rfl⟩, -⟩:=t2;rw[ha] at g1;cases g1;rw[hb] at c1;cases c1;obtain⟨f1,f2⟩:=two_frames hn hr g5 c5;have hcl:=f1.len;rw[kvs_len hvl] at hcl;obtain⟨c,hc⟩:∃c,a.kids[a.keys.length]? =some c:=⟨_,List.getElem?_eq_getElem (by omega)⟩;have hks:=at_split hc
  rw[List.drop_eq_nil_of_le (show a.kids.length≤a.keys.length+1 by omega)] at hks
  have hdr:a.kids.drop a.keys.length=[c]:=by
   obtain⟨hl,he⟩:=List.getElem?_eq_some_iff.1 hc;rw[List.drop_eq_getElem_cons hl,he,List.drop_eq_nil_of_le (by omega)]
  rw[hks,hkv] at f1;obtain⟨M1',PM,B,PB,e1,e2,rfl,rfl⟩:=f1.cutr (by rw[List.length_take,List.length_take,kvs_len hvl];omega);obtain⟨Mx,rfl,e3⟩:=e2.fr
  refine⟨k1,v1,M1',Mx++(k,v) :: M2,q1 :: PM,q2 :: (PB++Q2),hk1,hv1,⟨⟨_,PM,hq1,by simp[Nd.cutL,g2],by omega,by omega,?_,rfl⟩,o1⟩,⟨⟨_,PB++Q2,hq2,by simp[Nd.addF,c2],by omega,by omega,?_,rfl⟩,o2⟩,by simp,?_⟩
  ·rw[Nd.cutL_kvs];exact e1
  ·rw[Nd.addF_kvs]
   have:(b.addF k v (a.kids.drop a.keys.length)).kids=c :: b.kids:=by simp only[Nd.addF];rw[hdr];rfl
   rw[this];exact Fr.cons e3.single f2
  ·have s1:(q2 :: (PB++Q2)).Perm (PB++q2 :: Q2):=List.perm_middle.symm
   have:=(s1.append_left PM).cons q1;simpa using this
theorem Tr.fromRight (t1:Tc rd h d q1 M1 P1) (t2:Tc rd h d q2 M2 P2) (ha:rd q1=some a) (hb:rd q2=some b) (hh:2≤h) (h1:h≤b.keys.length) (h2:a.keys.length+1≤2*h - 1)
  (hq1:rd' q1=some (a.addL k v (b.kids.take 1))) (hq2:rd' q2=some b.cutF) (hr:∀i∈P1++P2,i≠q1→i≠q2→rd' i=rd i) (hn:(P1++P2).Nodup) :
  ∃k1 v1 M1' M2' P1' P2',b.keys[0]? =some k1∧b.vals[0]? =some v1∧Tc rd' h d q1 M1' P1'∧Tc rd' h d q2 M2' P2'∧M1++(k,v) :: M2=M1'++(k1,v1) :: M2'∧(P1'++P2').Perm (P1++P2):=by
 have hak:h - 1≤a.keys.length:=by have:=t1.2;rwa[nk_eq ha] at this
 have lc:b.cutF.keys.length=b.keys.length - 1:=by simp[Nd.cutF]
 have ld:(a.addL k v (b.kids.take 1)).keys.length=a.keys.length+1:=by simp[Nd.addL]
 have o1:h - 1≤nk rd' q1:=by rw[nk_eq hq1,ld];omega
 have o2:h - 1≤nk rd' q2:=by rw[nk_eq hq2,lc];omega
 have hvl:b.vals.length=b.keys.length:=by
  obtain⟨n',g1,g2, -⟩:=t2.1.node;rw[hb] at g1;cases g1;exact g2
 obtain⟨k1,hk1⟩:∃k1,b.keys[0]? =some k1:=⟨_,List.getElem?_eq_getElem (by omega)⟩;obtain⟨v1,hv1⟩:∃v1,b.vals[0]? =some v1:=⟨_,List.getElem?_eq_getElem (by omega)⟩;have hkv:=at_split (kvs_at hvl hk1 hv1);rw[List.take_zero,List.nil_append] at hkv
 cases d with
 | zero=>
  obtain⟨⟨n1,g1,g2,g3,g4,rfl,rfl⟩, -⟩:=t1;obtain⟨⟨n2,c1,c2,c3,c4,rfl,rfl⟩, -⟩:=t2;rw[ha] at g1;cases g1;rw[hb] at c1;cases c1
  refine⟨k1,v1,_,_,[q1],[q2],hk1,hv1,⟨⟨_,hq1,by simp[Nd.addL,g2,c2],by simp[Nd.addL,g3],by omega,(Nd.addL_kvs g3 k v _).symm,rfl⟩,o1⟩,⟨⟨_,hq2,by simp[Nd.cutF,c2],by simp[Nd.cutF,c3],by omega,(Nd.cutF_kvs b).symm,rfl⟩,o2⟩,?_,List.Perm.refl _⟩;conv=>lhs;rw[hkv]
  simp
 | succ d=>
  obtain⟨⟨n1,Q1,g1,g2,g3,g4,g5,rfl⟩, -⟩:=t1;obtain⟨⟨n2,Q2,c1,c2,c3,c4,c5,rfl⟩, -⟩:=t2;rw[ha] at g1;cases g1;rw[hb] at c1;cases c1;obtain⟨f1,f2⟩:=two_frames hn hr g5 c5;have hcl:=f2.len;rw[kvs_len hvl] at hcl;obtain⟨c,hc⟩:∃c,b.kids[0]? =some c:=⟨_,List.getElem?_eq_getElem (by omega)⟩;have hks:=at_split hc;rw[List.take_zero,List.nil_append] at hks
  have htk:b.kids.take 1=[c]:=by rw[List.take_add_one,hc];simp
  rw[hks,hkv] at f2;obtain⟨Mx,Qx,L',P',e1,e2,rfl,rfl⟩:=f2.inv;refine⟨k1,v1,M1++(k,v) :: Mx,L',q1 :: (Q1++Qx),q2 :: P',hk1,hv1,⟨⟨_,Q1++Qx,hq1,by simp[Nd.addL,g2],by omega,by omega,?_,rfl⟩,o1⟩,⟨⟨_,P',hq2,by simp[Nd.cutF,c2],by omega,by omega,?_,rfl⟩,o2⟩,by simp,?_⟩
  ·rw[Nd.addL_kvs g2]
   have:(a.addL k v (b.kids.take 1)).kids=a.kids++[c]:=by simp only[Nd.addL];rw[htk]
   rw[this];exact f1.snoc e1
  ·rw[Nd.cutF_kvs];exact e2
  ·have s1:(Qx++q2 :: P').Perm (q2 :: (Qx++P')):=List.perm_middle
   have:=(s1.append_left Q1).cons q1;simpa using this
end
end
section
theorem delL_free {L:List KV} {k:Int} (h:∀y∈L,y.1≠k):delL L k=L:=filter_all fun y hy=>by simpa using h y hy
theorem delL_app (A B:List KV) (k:Int):delL (A++B) k=delL A k++delL B k:=List.filter_append ..
theorem delL_at {A B:List KV} {y:KV} (hs:Srt (A++y :: B)):delL (A++y :: B) y.1=A++B:=by
 obtain⟨h1,h2,h3⟩:=srt_app.1 hs;obtain⟨h4, -⟩:=List.pairwise_cons.1 h2;rw[delL_app,delL_free (L:=A) fun z hz=>by have:=h3 z hz y List.mem_cons_self;omega];congr 1
 have:delL (y :: B) y.1=delL B y.1:=by simp[delL]
 rw[this];exact delL_free fun z hz=>by have:=h4 z hz;omega
structure DelAt (rd:Nat→Option Nd) (h D root:Nat) (R:List KV) (P:List Nat) (k:Int) (d q:Nat) (nd:Nd) (A M B:List KV) (P1 PM P2:List Nat):Prop where
 nd:rd q=some nd
 tr:Tr rd h d q M PM
 occ:h - 1≤nk rd q∨d=D
 plug:∀rd' M' PM',(∀i∈P1,rd' i=rd i)→(∀i∈P2,rd' i=rd i)→Tr rd' h d q M' PM'→(h - 1≤nk rd' q∨d=D)→Tr rd' h D root (A++M'++B) (P1++PM'++P2)
 srt:Srt M
 res:R=A++delL M k++B
 p:P=P1++PM++P2
 nod:P.Nodup
 has:∃v,(k,v)∈M
 le:d≤D
 top:d=D→q=root∧A=[]∧B=[]∧P1=[]∧P2=[]
section
variable {rd rd':Nat→Option Nd} {h D root:Nat} {R:List KV} {P:List Nat} {k:Int} {d q:Nat} {nd:Nd} {A M B:List KV} {P1 PM P2:List Nat}
theorem DelAt.start {L:List KV} (t:Tr rd h D root L P) (hs:Srt L) (hn:P.Nodup) (hk:∃v,(k,v)∈L):∃nd,DelAt rd h D root (delL L k) P k D root nd [] L [] [] P []:=by
 obtain⟨nd,h1, -⟩:=t.node;exact⟨nd,h1,t,.inr rfl,fun rd' M' PM' _ _ t _=>by simpa using t,hs,by simp,by simp,hn,hk,Nat.le_refl _,fun _=>⟨rfl,rfl,rfl,rfl,rfl⟩⟩
theorem DelAt.apart (a:DelAt rd h D root R P k d q nd A M B P1 PM P2):(∀i∈P1,i∉PM)∧(∀i∈P2,i∉PM)∧PM.Nodup∧q∈PM:=by
 have hn:=a.nod;rw[a.p] at hn;obtain⟨h1,h2,h3⟩:=List.nodup_append.1 hn;obtain⟨h4,h5,h6⟩:=List.nodup_append.1 h1;exact⟨fun i hi hm=>h6 i hi i hm rfl,fun i hi hm=>h3 i (List.mem_append_right _ hm) i hi rfl,h5,a.tr.root_mem⟩
theorem DelAt.leaf (a:DelAt rd h D root R P k 0 q nd A M B P1 PM P2) (hb:h≤nd.keys.length∨0=D) (hh:1≤h)
  (h1:rd' q=some ⟨nd.keys.eraseIdx (atI nd.keys k),nd.vals.eraseIdx (atI nd.keys k),[]⟩) (h2:∀i∈P,i≠q→rd' i=rd i):nd.keys.contains k=true∧Tr rd' h D root R P:=by
 obtain⟨e1,e2,e3,e4⟩:=a.apart;have hks:=a.tr.keys a.nd a.srt;obtain⟨v,hv⟩:=a.has;have a':=a;obtain⟨nd',g1,g2,g3,g4,g5,g6⟩:=a'.tr;rw[a.nd] at g1
 cases g1
 have hkm:k∈nd.keys:=by rw[←kvs_keys g3,←g5];exact List.mem_map.2 ⟨(k,v),hv,rfl⟩
 have hc:nd.keys.contains k=true:=List.contains_iff_mem.2 hkm;have hf:=(atI_found hks).1 hc;have hil:=(List.getElem?_eq_some_iff.1 hf).1;obtain⟨v',hv'⟩:∃v',nd.vals[atI nd.keys k]? =some v':=⟨_,List.getElem?_eq_getElem (by omega)⟩;have hkv:=at_split (kvs_at g3 hf hv')
 have hdel:delL M k=nd.kvs.take (atI nd.keys k)++nd.kvs.drop (atI nd.keys k+1):=by
  have hs:=a.srt;rw[g5] at hs ⊢;rw[hkv] at hs;conv=>lhs;rw[hkv]
  exact delL_at hs
 have hkve:Nd.kvs ⟨nd.keys.eraseIdx (atI nd.keys k),nd.vals.eraseIdx (atI nd.keys k),[]⟩=delL M k:=by
  rw[hdel];unfold Nd.kvs;simp only[List.eraseIdx_eq_take_drop_succ];rw[List.zip_append (by rw[List.length_take,List.length_take];omega),zip_take,zip_drop]
 have hlk:(nd.keys.eraseIdx (atI nd.keys k)).length=nd.keys.length - 1:=List.length_eraseIdx_of_lt hil;have hlv:(nd.vals.eraseIdx (atI nd.keys k)).length=nd.vals.length - 1:=List.length_eraseIdx_of_lt (by omega);have ht:Tr rd' h 0 q (delL M k) PM:=⟨_,h1,rfl,by simp only;omega,by simp only;omega,hkve.symm,g6⟩
 have:=a.plug rd' _ _ (fun i hi=>h2 i (by rw[a.p];simp[hi]) fun e=>e1 i hi (e▸e4)) (fun i hi=>h2 i (by rw[a.p];simp[hi]) fun e=>e2 i hi (e▸e4)) ht (by
  rcases hb with e | e
  ·left;rw[nk_eq h1];simp only;omega
  ·exact .inr e)
 rw[←a.res,←a.p] at this;exact⟨hc,this⟩
theorem DelAt.down (a:DelAt rd h D root R P k (d+1) q nd A M B P1 PM P2) (hk:nd.keys.contains k=false) :
  ∃e nd' A' M' B' P1' PM' P2',nd.kids[atI nd.keys k]? =some e∧DelAt rd h D root R P k d e nd' A' M' B' P1' PM' P2':=by
 obtain⟨c,A1,M1,B1,PA,PM1,PB,g1,g2,g3,g4,g5,g6,g7⟩:=a.tr.down a.nd a.srt hk;obtain⟨nd',n1, -⟩:=g4.1.node;have hsM:Srt M1:=a.srt.sub (by rw[g2];exact(List.sublist_append_right A1 M1).trans (List.sublist_append_left _ _));have hle:=a.le
 refine⟨c,nd',A++A1,M1,B1++B,P1++q :: PA,PM1,PB++P2,g1,n1,g4.1,.inl g4.2,fun rd' M' PM' f1 f2 f3 f4=>?_,hsM,?_,?_,a.nod,?_,by omega,fun e=>by omega⟩
 ·have hq:rd' q=rd q:=f1 q (by simp)
  have h8:=g7 rd' M' PM' hq (fun i hi=>f1 i (by simp[hi])) (fun i hi=>f2 i (by simp[hi])) ⟨f3,f4.resolve_right (by omega)⟩
  have h9:=a.plug rd' _ _ (fun i hi=>f1 i (by simp[hi])) (fun i hi=>f2 i (by simp[hi])) h8 (by
   have:nk rd' q=nk rd q:=by unfold nk;rw[hq]
   rw[this];exact a.occ)
  simpa using h9
 ·rw[a.res,g2,delL_mid g5 g6];simp
 ·rw[a.p,g3];simp
 ·obtain⟨v,hv⟩:=a.has
  rw[g2] at hv;rcases List.mem_append.1 hv with e | e
  ·rcases List.mem_append.1 e with e | e
   ·have:=g5 _ e;simp at this
   ·exact⟨v,e⟩
  ·have:=g6 _ e;simp at this
theorem DelAt.same (a:DelAt rd h D root R P k d q nd A M B P1 PM P2) {nd':Nd} {PM':List Nat} (h1:rd' q=some nd') (t:Tr rd' h d q M PM') (ho:h - 1≤nd'.keys.length∨d=D) (h2:∀i∈P1,rd' i=rd i) (h3:∀i∈P2,rd' i=rd i) (hn:(P1++PM'++P2).Nodup) :
  DelAt rd' h D root R (P1++PM'++P2) k d q nd' A M B P1 PM' P2:=
 ⟨h1,t,by rw[nk_eq h1];exact ho,fun rd2 M' PM2 f1 f2 f3 f4=>a.plug rd2 M' PM2 (fun i hi=>(f1 i hi).trans (h2 i hi)) (fun i hi=>(f2 i hi).trans (h3 i hi)) f3 f4,a.srt,a.res,rfl,hn,a.has,a.le,a.top⟩
end
end
section
theorem kvs_set2 {nd:Nd} (hv:nd.vals.length=nd.keys.length) {j:Nat} {k0 v0 k v:Int} (hk:nd.keys[j]? =some k0) (hvv:nd.vals[j]? =some v0):Nd.kvs ⟨nd.keys.set j k,nd.vals.set j v,nd.kids⟩=nd.kvs.set j (k,v):=by
 have h1:=(List.getElem?_eq_some_iff.1 hk).1;have h2:=(List.getElem?_eq_some_iff.1 hvv).1;have hl:nd.kvs.length=nd.keys.length:=kvs_len hv;apply List.ext_getElem?
 intro i;rw[List.getElem?_set,hl];unfold Nd.kvs;simp only;by_cases e:j=i
 ·subst e
  rw[if_pos rfl,if_pos h1,List.getElem?_zip_eq_some];exact⟨by rw[List.getElem?_set,if_pos rfl,if_pos h1],by rw[List.getElem?_set,if_pos rfl,if_pos h2]⟩
 ·rw[if_neg e]
  by_cases hi:i< nd.keys.length
  ·obtain⟨a,ha⟩:∃a,nd.keys[i]? =some a:=⟨_,List.getElem?_eq_getElem hi⟩
   obtain⟨b,hb⟩:∃b,nd.vals[i]? =some b:=⟨_,List.getElem?_eq_getElem (by omega)⟩;rw[show(nd.keys.zip nd.vals)[i]? =some (a,b) from List.getElem?_zip_eq_some.2 ⟨ha,hb⟩,List.getElem?_zip_eq_some];exact⟨by rw[List.getElem?_set,if_neg e,ha],by rw[List.getElem?_set,if_neg e,hb]⟩
  ·rw[List.getElem?_eq_none (by rw[List.length_zip,List.length_set,List.length_set];omega),List.getElem?_eq_none (by rw[List.length_zip];omega)]
section
variable {rd rd':Nat→Option Nd} {h d q q1 q2 j:Nat} {M:List KV} {PM:List Nat} {nd a b:Nd} {k v:Int}
theorem Tr.left (t:Tr rd h (d+1) q M PM) (hn:rd q=some nd) (hd:PM.Nodup) (hh:2≤h) (h1:nd.kids[j]? =some q1) (h2:nd.kids[j+1]? =some q2) (hk:nd.keys[j]? =some k) (hv:nd.vals[j]? =some v) (ha:rd q1=some a) (hb:rd q2=some b) (o1:h≤a.keys.length) (o2:b.keys.length+1≤2*h - 1) :
  ∃k1 v1,a.keys[a.keys.length - 1]? =some k1∧a.vals[a.keys.length - 1]? =some v1∧∀rd',rd' q1=some a.cutL→rd' q2=some (b.addF k v (a.kids.drop a.keys.length))→rd' q=some ⟨nd.keys.set j k1,nd.vals.set j v1,nd.kids⟩→(∀i∈PM,i≠q1→i≠q2→i≠q→rd' i=rd i)→
   ∃PM',Tr rd' h (d+1) q M PM'∧PM'.Perm PM:=by
 obtain⟨n',P',g1,g2,g3,g4,g5,rfl⟩:=t;rw[hn] at g1;cases g1;have hq:=List.nodup_cons.1 hd;obtain⟨A,PA,M1,P1,M2,P2,B,PB,f1,f2,f3,f4,rfl,rfl⟩:=g5.pair h1 h2 (kvs_at g2 hk hv);have hnd:=List.nodup_append.1 hq.2;have hnd2:=List.nodup_append.1 hnd.1;have m1:q1∈P1:=f2.1.root_mem;have m2:q2∈P2:=f3.1.root_mem
 have hA:∀i∈PA,i≠q1∧i≠q2:=fun i hi=>⟨fun e=>hnd2.2.2 i hi q1 (by simp[m1]) e,fun e=>hnd2.2.2 i hi q2 (by simp[m2]) e⟩;have hB:∀i∈PB,i≠q1∧i≠q2:=fun i hi=>⟨fun e=>hnd.2.2 q1 (by simp[m1]) i hi e.symm,fun e=>hnd.2.2 q2 (by simp[m2]) i hi e.symm⟩
 have hvl:a.vals.length=a.keys.length:=by
  obtain⟨n',w1,w2, -⟩:=f2.1.node;rw[ha] at w1;cases w1;exact w2
 obtain⟨k1,hk1⟩:∃k1,a.keys[a.keys.length - 1]? =some k1:=⟨_,List.getElem?_eq_getElem (by omega)⟩;obtain⟨v1,hv1⟩:∃v1,a.vals[a.keys.length - 1]? =some v1:=⟨_,List.getElem?_eq_getElem (by omega)⟩;refine⟨k1,v1,hk1,hv1,fun rd' e1 e2 e3 e4=>?_⟩;have hne:∀i∈PA++(P1++P2)++PB,i≠q:=fun i hi e=>hq.1 (e▸hi)
 obtain⟨k2,v2,M1',M2',P1',P2',w1,w2,w3,w4,w5,w6⟩:=Tr.fromLeft (rd':=rd') (k:=k) (v:=v) f2 f3 ha hb hh o1 o2 e1 e2 (fun i hi i1 i2=>e4 i (by simp only[List.mem_cons,List.mem_append] at hi ⊢;rcases hi with hi | hi<;>simp[hi]) i1 i2 (hne i (by simp only[List.mem_append] at hi ⊢;rcases hi with hi | hi<;>simp[hi]))) hnd2.2.1;rw[hk1] at w1;cases w1
 rw[hv1] at w2;cases w2;have f1':Pre (fun q L P=>Tr rd' h d q L P∧h - 1≤nk rd' q) (nd.kids.take j) (nd.kvs.take j) A PA:=f1.mono fun c M Q hc hQ=>Tc.frame hc fun i hi=>e4 i (by simp[hQ i hi]) (hA i (hQ i hi)).1 (hA i (hQ i hi)).2 (hne i (by simp[hQ i hi]))
 have f4':Suf (fun q L P=>Tr rd' h d q L P∧h - 1≤nk rd' q) (nd.kids.drop (j+2)) (nd.kvs.drop (j+1)) B PB:=f4.mono fun c M Q hc hQ=>Tc.frame hc fun i hi=>e4 i (by simp[hQ i hi]) (hB i (hQ i hi)).1 (hB i (hQ i hi)).2 (hne i (by simp[hQ i hi]));have hf:=Fr.repair (s:=(k1,v1)) h1 h2 (by rw[kvs_len g2];exact(List.getElem?_eq_some_iff.1 hk).1) f1' w3 w4 f4'
 refine⟨q :: (PA++(P1'++P2')++PB),⟨_,_,e3,by simp only[List.length_set];exact g2,by simp only[List.length_set];exact g3,by simp only[List.length_set];exact g4,?_,rfl⟩,((w6.append_left PA).append_right PB).cons q⟩;rw[kvs_set2 g2 hk hv,w5];exact hf
end
end
section
section
variable {rd rd':Nat→Option Nd} {h d q q1 q2 j:Nat} {M:List KV} {PM:List Nat} {nd a b:Nd} {k v:Int}
theorem Tr.right (t:Tr rd h (d+1) q M PM) (hn:rd q=some nd) (hd:PM.Nodup) (hh:2≤h) (h1:nd.kids[j]? =some q1) (h2:nd.kids[j+1]? =some q2) (hk:nd.keys[j]? =some k) (hv:nd.vals[j]? =some v) (ha:rd q1=some a) (hb:rd q2=some b) (o1:h≤b.keys.length) (o2:a.keys.length+1≤2*h - 1) :
  ∃k1 v1,b.keys[0]? =some k1∧b.vals[0]? =some v1∧∀rd',rd' q1=some (a.addL k v (b.kids.take 1))→rd' q2=some b.cutF→rd' q=some ⟨nd.keys.set j k1,nd.vals.set j v1,nd.kids⟩→(∀i∈PM,i≠q1→i≠q2→i≠q→rd' i=rd i)→
   ∃PM',Tr rd' h (d+1) q M PM'∧PM'.Perm PM:=by
 obtain⟨n',P',g1,g2,g3,g4,g5,rfl⟩:=t;rw[hn] at g1;cases g1;have hq:=List.nodup_cons.1 hd;obtain⟨A,PA,M1,P1,M2,P2,B,PB,f1,f2,f3,f4,rfl,rfl⟩:=g5.pair h1 h2 (kvs_at g2 hk hv);have hnd:=List.nodup_append.1 hq.2;have hnd2:=List.nodup_append.1 hnd.1;have m1:q1∈P1:=f2.1.root_mem;have m2:q2∈P2:=f3.1.root_mem
 have hA:∀i∈PA,i≠q1∧i≠q2:=fun i hi=>⟨fun e=>hnd2.2.2 i hi q1 (by simp[m1]) e,fun e=>hnd2.2.2 i hi q2 (by simp[m2]) e⟩;have hB:∀i∈PB,i≠q1∧i≠q2:=fun i hi=>⟨fun e=>hnd.2.2 q1 (by simp[m1]) i hi e.symm,fun e=>hnd.2.2 q2 (by simp[m2]) i hi e.symm⟩
 have hvl:b.vals.length=b.keys.length:=by
  obtain⟨n',w1,w2, -⟩:=f3.1.node;rw[hb] at w1;cases w1;exact w2
 obtain⟨k1,hk1⟩:∃k1,b.keys[0]? =some k1:=⟨_,List.getElem?_eq_getElem (by omega)⟩;obtain⟨v1,hv1⟩:∃v1,b.vals[0]? =some v1:=⟨_,List.getElem?_eq_getElem (by omega)⟩;refine⟨k1,v1,hk1,hv1,fun rd' e1 e2 e3 e4=>?_⟩;have hne:∀i∈PA++(P1++P2)++PB,i≠q:=fun i hi e=>hq.1 (e▸hi)
 obtain⟨k2,v2,M1',M2',P1',P2',w1,w2,w3,w4,w5,w6⟩:=Tr.fromRight (rd':=rd') (k:=k) (v:=v) f2 f3 ha hb hh o1 o2 e1 e2 (fun i hi i1 i2=>e4 i (by simp only[List.mem_cons,List.mem_append] at hi ⊢;rcases hi with hi | hi<;>simp[hi]) i1 i2 (hne i (by simp only[List.mem_append] at hi ⊢;rcases hi with hi | hi<;>simp[hi]))) hnd2.2.1;rw[hk1] at w1;cases w1
 rw[hv1] at w2;cases w2;have f1':Pre (fun q L P=>Tr rd' h d q L P∧h - 1≤nk rd' q) (nd.kids.take j) (nd.kvs.take j) A PA:=f1.mono fun c M Q hc hQ=>Tc.frame hc fun i hi=>e4 i (by simp[hQ i hi]) (hA i (hQ i hi)).1 (hA i (hQ i hi)).2 (hne i (by simp[hQ i hi]))
 have f4':Suf (fun q L P=>Tr rd' h d q L P∧h - 1≤nk rd' q) (nd.kids.drop (j+2)) (nd.kvs.drop (j+1)) B PB:=f4.mono fun c M Q hc hQ=>Tc.frame hc fun i hi=>e4 i (by simp[hQ i hi]) (hB i (hQ i hi)).1 (hB i (hQ i hi)).2 (hne i (by simp[hQ i hi]));have hf:=Fr.repair (s:=(k1,v1)) h1 h2 (by rw[kvs_len g2];exact(List.getElem?_eq_some_iff.1 hk).1) f1' w3 w4 f4'
 refine⟨q :: (PA++(P1'++P2')++PB),⟨_,_,e3,by simp only[List.length_set];exact g2,by simp only[List.length_set];exact g3,by simp only[List.length_set];exact g4,?_,rfl⟩,((w6.append_left PA).append_right PB).cons q⟩;rw[kvs_set2 g2 hk hv,w5];exact hf
theorem Tr.merged (t:Tr rd h (d+1) q M PM) (hn:rd q=some nd) (hd:PM.Nodup) (hh:2≤h) (h1:nd.kids[j]? =some q1) (h2:nd.kids[j+1]? =some q2) (hk:nd.keys[j]? =some k) (hv:nd.vals[j]? =some v) (ha:rd q1=some a) (hb:rd q2=some b) (o:a.keys.length+b.keys.length+1≤2*h - 1) (h2k:2≤nd.keys.length) :
  ∀rd',rd' q1=some (a.one b k v)→rd' q=some ⟨nd.keys.eraseIdx j,nd.vals.eraseIdx j,nd.kids.eraseIdx (j+1)⟩→(∀i∈PM,i≠q1→i≠q2→i≠q→rd' i=rd i)→
   ∃PM',Tr rd' h (d+1) q M PM'∧(q2 :: PM').Perm PM:=by
 obtain⟨n',P',g1,g2,g3,g4,g5,rfl⟩:=t;rw[hn] at g1;cases g1;have hq:=List.nodup_cons.1 hd;obtain⟨A,PA,M1,P1,M2,P2,B,PB,f1,f2,f3,f4,rfl,rfl⟩:=g5.pair h1 h2 (kvs_at g2 hk hv);have hnd:=List.nodup_append.1 hq.2;have hnd2:=List.nodup_append.1 hnd.1;have m1:q1∈P1:=f2.1.root_mem;have m2:q2∈P2:=f3.1.root_mem
 have hA:∀i∈PA,i≠q1∧i≠q2:=fun i hi=>⟨fun e=>hnd2.2.2 i hi q1 (by simp[m1]) e,fun e=>hnd2.2.2 i hi q2 (by simp[m2]) e⟩;have hB:∀i∈PB,i≠q1∧i≠q2:=fun i hi=>⟨fun e=>hnd.2.2 q1 (by simp[m1]) i hi e.symm,fun e=>hnd.2.2 q2 (by simp[m2]) i hi e.symm⟩;intro rd' e1 e3 e4;have hjl:=(List.getElem?_eq_some_iff.1 hk).1
 have hne:∀i∈PA++(P1++P2)++PB,i≠q:=fun i hi e=>hq.1 (e▸hi);obtain⟨PX,w1,w2⟩:=Tr.merge (rd':=rd') (k:=k) (v:=v) f2 f3 ha hb o e1 (fun i hi i1 i2=>e4 i (by simp only[List.mem_cons,List.mem_append] at hi ⊢;rcases hi with hi | hi<;>simp[hi]) i1 i2 (hne i (by simp only[List.mem_append] at hi ⊢;rcases hi with hi | hi<;>simp[hi]))) hnd2.2.1
 have oa:h - 1≤a.keys.length:=by have:=f2.2;rwa[nk_eq ha] at this
 have ho:h - 1≤nk rd' q1:=by rw[nk_eq e1];simp only[Nd.one,List.length_append,List.length_cons];omega
 have f1':Pre (fun q L P=>Tr rd' h d q L P∧h - 1≤nk rd' q) (nd.kids.take j) (nd.kvs.take j) A PA:=f1.mono fun c M Q hc hQ=>Tc.frame hc fun i hi=>e4 i (by simp[hQ i hi]) (hA i (hQ i hi)).1 (hA i (hQ i hi)).2 (hne i (by simp[hQ i hi]))
 have f4':Suf (fun q L P=>Tr rd' h d q L P∧h - 1≤nk rd' q) (nd.kids.drop (j+2)) (nd.kvs.drop (j+1)) B PB:=f4.mono fun c M Q hc hQ=>Tc.frame hc fun i hi=>e4 i (by simp[hQ i hi]) (hB i (hQ i hi)).1 (hB i (hQ i hi)).2 (hne i (by simp[hQ i hi]));have hf:=Fr.joined h1 h2 f1' ⟨w1,ho⟩ f4';have lk:(nd.keys.eraseIdx j).length=nd.keys.length - 1:=List.length_eraseIdx_of_lt hjl
 have lv:(nd.vals.eraseIdx j).length=nd.vals.length - 1:=List.length_eraseIdx_of_lt (by omega)
 have ek:Nd.kvs ⟨nd.keys.eraseIdx j,nd.vals.eraseIdx j,nd.kids.eraseIdx (j+1)⟩=nd.kvs.eraseIdx j:=by
  unfold Nd.kvs;simp only[List.eraseIdx_eq_take_drop_succ];rw[List.zip_append (by rw[List.length_take,List.length_take];omega),zip_take,zip_drop]
 refine⟨q :: (PA++(q1 :: PX)++PB),⟨_,_,e3,by simp only;omega,by simp only;omega,by simp only;omega,?_,rfl⟩,?_⟩
 ·rw[ek];exact hf
 ·have s1:(PA++(q1 :: q2 :: PX)++PB).Perm (PA++(P1++P2)++PB):=(w2.append_left PA).append_right PB
  have s2:(q2 :: (PA++(q1 :: PX)++PB)).Perm (PA++(q1 :: q2 :: PX)++PB):=by
   have:=List.perm_middle (l₁:=PA++[q1]) (a:=q2) (l₂:=PX++PB);have h9:=this.symm;simpa using h9
  exact(List.Perm.swap q q2 _).trans ((s2.trans s1).cons q)
end
end
section
section
variable {rd rd':Nat→Option Nd} {h d q q1 q2:Nat} {M:List KV} {PM:List Nat} {nd a b:Nd} {k v:Int}
theorem Tr.shrink (t:Tr rd h (d+1) q M PM) (hn:rd q=some nd) (hd:PM.Nodup) (h1:nd.kids[0]? =some q1) (h2:nd.kids[1]? =some q2) (hk:nd.keys=[k]) (hv:nd.vals=[v]) (ha:rd q1=some a) (hb:rd q2=some b) (o:a.keys.length+b.keys.length+1≤2*h - 1) :
  ∀rd',rd' q=some (a.one b k v)→(∀i∈PM,i≠q1→i≠q2→i≠q→rd' i=rd i)→
   ∃PM',Tr rd' h d q M PM'∧(q1 :: q2 :: PM').Perm PM:=by
 obtain⟨n',P',g1,g2,g3,g4,g5,rfl⟩:=t;rw[hn] at g1;cases g1;have hq:=List.nodup_cons.1 hd;have hkv:nd.kvs=[(k,v)]:=by unfold Nd.kvs;rw[hk,hv];rfl
 have hl:=g5.len;rw[hkv] at hl;obtain⟨A,PA,M1,P1,M2,P2,B,PB,f1,f2,f3,f4,rfl,rfl⟩:=g5.pair h1 h2 (s:=(k,v)) (by rw[hkv];rfl);rw[hkv] at f1 f4
 have hA:A=[]∧PA=[]:=by
  rw[List.take_zero] at f1
  cases f1
  exact⟨rfl,rfl⟩
 have hB:B=[]∧PB=[]:=by
  have e:nd.kids.drop (0+2)=[]:=List.drop_eq_nil_of_le (by simp at hl;omega);rw[e] at f4
  cases f4
  exact⟨rfl,rfl⟩
 obtain⟨rfl,rfl⟩:=hA;obtain⟨rfl,rfl⟩:=hB;simp only[List.nil_append,List.append_nil] at hq hd ⊢;intro rd' e1 e4;have hne:∀i∈P1++P2,i≠q:=fun i hi e=>hq.1 (e▸hi);obtain⟨PX,w1,w2⟩:=Tr.merge (rd':=rd') (k:=k) (v:=v) f2 f3 ha hb o e1 (fun i hi i1 i2=>e4 i (List.mem_cons_of_mem _ hi) i1 i2 (hne i hi)) hq.2;refine⟨q :: PX,w1,?_⟩
 have s:(q1 :: q2 :: q :: PX).Perm (q :: q1 :: q2 :: PX):=by
  have:=List.perm_middle (l₁:=[q1,q2]) (a:=q) (l₂:=PX);simpa using this
 exact s.trans (w2.cons q)
end
end
section
theorem last_split {L:List KV} {y:KV} (h:L.getLast? =some y):∃L',L=L'++[y]:=by
 obtain⟨hne,e⟩:=List.getLast?_eq_some_iff.1 h;exact⟨hne,e⟩
section
variable {rd rd':Nat→Option Nd} {h D root:Nat} {R:List KV} {P:List Nat} {k v:Int} {d q q1 q2 j:Nat} {nd na:Nd} {A M B:List KV} {P1 PM P2:List Nat}
theorem DelAt.pred (a:DelAt rd h D root R P k (d+1) q nd A M B P1 PM P2) (h1:nd.kids[j]? =some q1) (h2:nd.kids[j+1]? =some q2) (hk:nd.keys[j]? =some k) (hv:nd.vals[j]? =some v) (ha:rd q1=some na) :
  ∃M1 Q1,Tc rd h d q1 M1 Q1∧Srt M1∧∀k' v' rd',M1.getLast? =some (k',v')→rd' q=some ⟨nd.keys.set j k',nd.vals.set j v',nd.kids⟩→(∀i∈P,i≠q→rd' i=rd i)→
   ∃A' B' P1' P2',DelAt rd' h D root R P k' d q1 na A' M1 B' P1' Q1 P2':=by
 obtain⟨n',P',g1,g2,g3,g4,g5,e0⟩:=a.tr;rw[a.nd] at g1;cases g1;obtain⟨A0,PA,M1,Q1,M2,Q2,B0,PB,f1,f2,f3,f4,rfl,rfl⟩:=g5.pair h1 h2 (kvs_at g2 hk hv);have hsM:Srt M1:=a.srt.sub (((List.sublist_append_left M1 _).trans (List.sublist_append_right A0 _)).trans (List.sublist_append_left _ B0));refine⟨M1,Q1,f2,hsM,fun k' v' rd' hl e3 e4=>?_⟩
 obtain⟨M1',hM1⟩:=last_split hl;have hnod:=a.nod;rw[a.p,e0] at hnod
 have hPq:∀i∈PA++(Q1++Q2)++PB,i≠q:=by
  have h9:=(List.nodup_append.1 (List.nodup_append.1 hnod).1).2.1;exact fun i hi e=>(List.nodup_cons.1 h9).1 (e▸hi)
 have hP1q:∀i∈P1,i≠q:=fun i hi e=>(List.nodup_append.1 (List.nodup_append.1 hnod).1).2.2 i hi q List.mem_cons_self e;have hP2q:∀i∈P2,i≠q:=fun i hi e=>(List.nodup_append.1 hnod).2.2 q (by simp) i hi e.symm;have hmem:∀i∈PA++(Q1++Q2)++PB,i∈P:=fun i hi=>by rw[a.p,e0];exact List.mem_append_left _ (List.mem_append_right _ (List.mem_cons_of_mem _ hi))
 have hle:=a.le;have hq1:rd' q1=rd q1:=e4 q1 (hmem q1 (by simp[f2.1.root_mem])) (hPq q1 (by simp[f2.1.root_mem]))
 refine⟨A++A0,(k',v') :: (M2++B0++B),P1++q :: PA,Q2++PB++P2,hq1.trans ha,f2.1.frame fun i hi=>e4 i (hmem i (by simp[hi])) (hPq i (by simp[hi])),.inl (by unfold nk;rw[hq1];exact f2.2),fun rd2 M' PM2 w1 w2 w3 w4=>?_,hsM,?_,?_,a.nod,⟨v',by rw[hM1];simp⟩,by omega,fun e=>by omega⟩
 ·have hrq:rd2 q=rd' q:=w1 q (by simp)
  have f1':Pre (fun q L P=>Tr rd2 h d q L P∧h - 1≤nk rd2 q) (nd.kids.take j) (nd.kvs.take j) A0 PA:=f1.mono fun c M Q hc hQ=>Tc.frame hc fun i hi=>(w1 i (by simp[hQ i hi])).trans (e4 i (hmem i (by simp[hQ i hi])) (hPq i (by simp[hQ i hi])));have f3':Tc rd2 h d q2 M2 Q2:=Tc.frame f3 fun i hi=>(w2 i (by simp[hi])).trans (e4 i (hmem i (by simp[hi])) (hPq i (by simp[hi])))
  have f4':Suf (fun q L P=>Tr rd2 h d q L P∧h - 1≤nk rd2 q) (nd.kids.drop (j+2)) (nd.kvs.drop (j+1)) B0 PB:=f4.mono fun c M Q hc hQ=>Tc.frame hc fun i hi=>(w2 i (by simp[hQ i hi])).trans (e4 i (hmem i (by simp[hQ i hi])) (hPq i (by simp[hQ i hi])))
  have hf:=Fr.repair (s:=(k',v')) h1 h2 (by rw[kvs_len g2];exact(List.getElem?_eq_some_iff.1 hk).1) f1' ⟨w3,w4.resolve_right (by omega)⟩ f3' f4';rw[←kvs_set2 g2 hk hv] at hf;have hnq:=hrq.trans e3
  have ht:Tr rd2 h (d+1) q (A0++(M'++(k',v') :: M2)++B0) (q :: (PA++(PM2++Q2)++PB)):=⟨_,_,hnq,by simp only[List.length_set];exact g2,by simp only[List.length_set];exact g3,by simp only[List.length_set];exact g4,hf,rfl⟩
  have:=a.plug rd2 _ _ (fun i hi=>(w1 i (by simp[hi])).trans (e4 i (by rw[a.p];simp[hi]) (hP1q i hi))) (fun i hi=>(w2 i (by simp[hi])).trans (e4 i (by rw[a.p];simp[hi]) (hP2q i hi))) ht (by
   rcases a.occ with e | e
   ·left;rw[nk_eq hnq];rw[nk_eq a.nd] at e;simp only[List.length_set];exact e
   ·exact .inr e)
  simpa using this
 ·have hs:=a.srt
  have e5:A0++(M1++(k,v) :: M2)++B0=(A0++M1)++(k,v) :: (M2++B0):=by simp
  rw[e5] at hs;rw[a.res,e5,delL_at hs]
  have h6:delL M1 k'=M1':=by
   rw[hM1] at hsM ⊢;have:=delL_at (y:=(k',v')) hsM;simpa using this
  rw[h6,hM1];simp
 ·rw[a.p,e0];simp
end
end
section
section
variable {rd rd':Nat→Option Nd} {h D root:Nat} {R:List KV} {P:List Nat} {k v:Int} {d q q1 q2 j:Nat} {nd na:Nd} {A M B:List KV} {P1 PM P2:List Nat}
theorem DelAt.succ (a:DelAt rd h D root R P k (d+1) q nd A M B P1 PM P2) (h1:nd.kids[j]? =some q1) (h2:nd.kids[j+1]? =some q2) (hk:nd.keys[j]? =some k) (hv:nd.vals[j]? =some v) (ha:rd q2=some na) :
  ∃M2 Q2,Tc rd h d q2 M2 Q2∧Srt M2∧∀k' v' rd',M2.head? =some (k',v')→rd' q=some ⟨nd.keys.set j k',nd.vals.set j v',nd.kids⟩→(∀i∈P,i≠q→rd' i=rd i)→
   ∃A' B' P1' P2',DelAt rd' h D root R P k' d q2 na A' M2 B' P1' Q2 P2':=by
 obtain⟨n',P',g1,g2,g3,g4,g5,e0⟩:=a.tr;rw[a.nd] at g1;cases g1;obtain⟨A0,PA,M1,Q1,M2,Q2,B0,PB,f1,f2,f3,f4,rfl,rfl⟩:=g5.pair h1 h2 (kvs_at g2 hk hv);have hsM:Srt M2:=a.srt.sub ((((List.sublist_cons_self _ M2).trans (List.sublist_append_right M1 _)).trans (List.sublist_append_right A0 _)).trans (List.sublist_append_left _ B0))
 refine⟨M2,Q2,f3,hsM,fun k' v' rd' hl e3 e4=>?_⟩
 obtain⟨M2',hM2⟩:∃M2',M2=(k',v') :: M2':=by
  cases M2 with
  | nil=>cases hl
  | cons y t=>cases hl;exact⟨t,rfl⟩
 have hnod:=a.nod;rw[a.p,e0] at hnod
 have hPq:∀i∈PA++(Q1++Q2)++PB,i≠q:=by
  have h9:=(List.nodup_append.1 (List.nodup_append.1 hnod).1).2.1;exact fun i hi e=>(List.nodup_cons.1 h9).1 (e▸hi)
 have hP1q:∀i∈P1,i≠q:=fun i hi e=>(List.nodup_append.1 (List.nodup_append.1 hnod).1).2.2 i hi q List.mem_cons_self e;have hP2q:∀i∈P2,i≠q:=fun i hi e=>(List.nodup_append.1 hnod).2.2 q (by simp) i hi e.symm;have hmem:∀i∈PA++(Q1++Q2)++PB,i∈P:=fun i hi=>by rw[a.p,e0];exact List.mem_append_left _ (List.mem_append_right _ (List.mem_cons_of_mem _ hi))
 have hle:=a.le;have hq2:rd' q2=rd q2:=e4 q2 (hmem q2 (by simp[f3.1.root_mem])) (hPq q2 (by simp[f3.1.root_mem]))
 refine⟨A++A0++M1++[(k',v')],B0++B,P1++q :: (PA++Q1),PB++P2,hq2.trans ha,f3.1.frame fun i hi=>e4 i (hmem i (by simp[hi])) (hPq i (by simp[hi])),.inl (by unfold nk;rw[hq2];exact f3.2),fun rd2 M' PM2 w1 w2 w3 w4=>?_,hsM,?_,?_,a.nod,⟨v',by rw[hM2];simp⟩,by omega,fun e=>by omega⟩
 ·have hrq:rd2 q=rd' q:=w1 q (by simp)
  have f1':Pre (fun q L P=>Tr rd2 h d q L P∧h - 1≤nk rd2 q) (nd.kids.take j) (nd.kvs.take j) A0 PA:=f1.mono fun c M Q hc hQ=>Tc.frame hc fun i hi=>(w1 i (by simp[hQ i hi])).trans (e4 i (hmem i (by simp[hQ i hi])) (hPq i (by simp[hQ i hi])));have f2':Tc rd2 h d q1 M1 Q1:=Tc.frame f2 fun i hi=>(w1 i (by simp[hi])).trans (e4 i (hmem i (by simp[hi])) (hPq i (by simp[hi])))
  have f4':Suf (fun q L P=>Tr rd2 h d q L P∧h - 1≤nk rd2 q) (nd.kids.drop (j+2)) (nd.kvs.drop (j+1)) B0 PB:=f4.mono fun c M Q hc hQ=>Tc.frame hc fun i hi=>(w2 i (by simp[hQ i hi])).trans (e4 i (hmem i (by simp[hQ i hi])) (hPq i (by simp[hQ i hi])))
  have hf:=Fr.repair (s:=(k',v')) h1 h2 (by rw[kvs_len g2];exact(List.getElem?_eq_some_iff.1 hk).1) f1' f2' ⟨w3,w4.resolve_right (by omega)⟩ f4';rw[←kvs_set2 g2 hk hv] at hf;have hnq:=hrq.trans e3
  have ht:Tr rd2 h (d+1) q (A0++(M1++(k',v') :: M')++B0) (q :: (PA++(Q1++PM2)++PB)):=⟨_,_,hnq,by simp only[List.length_set];exact g2,by simp only[List.length_set];exact g3,by simp only[List.length_set];exact g4,hf,rfl⟩
  have:=a.plug rd2 _ _ (fun i hi=>(w1 i (by simp[hi])).trans (e4 i (by rw[a.p];simp[hi]) (hP1q i hi))) (fun i hi=>(w2 i (by simp[hi])).trans (e4 i (by rw[a.p];simp[hi]) (hP2q i hi))) ht (by
   rcases a.occ with e | e
   ·left;rw[nk_eq hnq];rw[nk_eq a.nd] at e;simp only[List.length_set];exact e
   ·exact .inr e)
  simpa using this
 ·have hs:=a.srt
  have e5:A0++(M1++(k,v) :: M2)++B0=(A0++M1)++(k,v) :: (M2++B0):=by simp
  rw[e5] at hs;rw[a.res,e5,delL_at hs]
  have h6:delL M2 k'=M2':=by
   rw[hM2] at hsM ⊢;exact delL_at (A:=[]) (y:=(k',v')) hsM
  rw[h6,hM2];simp
 ·rw[a.p,e0];simp
end
end
section
theorem atI_set {l:List Int} {j:Nat} {a b k:Int} (h:l[j]? =some b) (e:a< k↔b< k):atI (l.set j a) k=atI l k:=by
 unfold atI;have:=countP_set' (fun x=>decide (x< k)) a b l j h;by_cases ha:a< k
 ·have hb:=e.1 ha
  simp only[ha,hb,decide_true,if_true] at this;omega
 ·have hb:¬b< k:=fun hb=>ha (e.2 hb)
  simp only[ha,hb,decide_false] at this;simpa using this
theorem atI_erase {l:List Int} {j:Nat} {b k:Int} (h:l[j]? =some b):atI l k=atI (l.eraseIdx j) k+if b< k then 1 else 0:=by
 unfold atI;have e:=at_split h;rw[List.eraseIdx_eq_take_drop_succ];conv=>lhs;rw[e]
 simp only[List.countP_append,List.countP_cons,List.countP_nil];by_cases hb:b< k<;>simp[hb]<;>omega
theorem set_free {l:List Int} {j:Nat} {a k:Int} (h:l.contains k=false) (e:a≠k):(l.set j a).contains k=false:=by
 cases hc:(l.set j a).contains k with
 | false=>rfl
 | true=>
  rcases List.mem_or_eq_of_mem_set (List.contains_iff_mem.1 hc) with e2 | e2
  ·rw[List.contains_iff_mem.2 e2] at h;cases h
  ·exact absurd e2.symm e
theorem erase_free {l:List Int} {j:Nat} {k:Int} (h:l.contains k=false):(l.eraseIdx j).contains k=false:=by
 cases hc:(l.eraseIdx j).contains k with
 | false=>rfl
 | true=>
  have:=List.mem_of_mem_eraseIdx (List.contains_iff_mem.1 hc);rw[List.contains_iff_mem.2 this] at h;cases h
theorem erase_own {l:List Int} {j:Nat} {k:Int} (h:l[j]? =some k) (hs:l.Pairwise (· < ·)):(l.eraseIdx j).contains k=false∧atI (l.eraseIdx j) k=j:=by
 have e:=at_split h;have hl:=(List.getElem?_eq_some_iff.1 h).1;rw[e] at hs;obtain⟨h1,h2,h3⟩:=List.pairwise_append.1 hs;obtain⟨h4,h5⟩:=List.pairwise_cons.1 h2;rw[List.eraseIdx_eq_take_drop_succ];have hlt:∀x∈l.take j,x< k:=fun x hx=>h3 x hx k List.mem_cons_self;constructor
 ·cases hc:(l.take j++l.drop (j+1)).contains k with
  | false=>rfl
  | true=>
   rcases List.mem_append.1 (List.contains_iff_mem.1 hc) with e2 | e2
   ·have:=hlt k e2;omega
   ·have:=h4 k e2;omega
 ·unfold atI
  rw[List.countP_append,List.countP_eq_length.2 (fun x hx=>by simpa using hlt x hx),List.countP_eq_zero.2 (fun x hx=>by have:=h4 x hx;simp;omega),List.length_take]
  omega
section
variable {rd rd':Nat→Option Nd} {h d q q1 q2 j:Nat} {M:List KV} {PM:List Nat} {nd a b:Nd} {k v k1:Int}
theorem Tr.kvs_sub (t:Tr rd h d q M PM) (hn:rd q=some nd):nd.vals.length=nd.keys.length∧nd.kvs.Sublist M:=by
 cases d with
 | zero=>obtain⟨nd',h1,h2,h3,h4,rfl,h6⟩:=t;rw[hn] at h1;cases h1;exact⟨h3,List.Sublist.refl _⟩
 | succ d=>obtain⟨nd',P',h1,h2,h3,h4,h5,h6⟩:=t;rw[hn] at h1;cases h1;exact⟨h2,h5.sub⟩
theorem Tr.key_mem (t:Tr rd h d q M PM) (hn:rd q=some nd) (hk:k∈nd.keys):∃v,(k,v)∈M:=by
 obtain⟨h1,h2⟩:=t.kvs_sub hn;rw[←kvs_keys h1] at hk;obtain⟨x,hx,rfl⟩:=List.mem_map.1 hk;exact⟨x.2,h2.subset hx⟩
theorem Tr.kid_occ (t:Tr rd h (d+1) q M PM) (hn:rd q=some nd) (h1:nd.kids[j]? =some q1) (ha:rd q1=some a):h - 1≤a.keys.length:=by
 obtain⟨n',P',g1,g2,g3,g4,g5,rfl⟩:=t;rw[hn] at g1;cases g1;obtain⟨M',Q,f1, -⟩:=g5.mem (List.mem_of_getElem? h1);have:=f1.2;rwa[nk_eq ha] at this
theorem Tr.around (t:Tr rd h (d+1) q M PM) (hn:rd q=some nd) (hs:Srt M) (h1:nd.kids[j]? =some q1) (h2:nd.kids[j+1]? =some q2) (hk:nd.keys[j]? =some k) (ha:rd q1=some a) (hb:rd q2=some b):(∀x∈a.keys,x< k)∧(∀x∈b.keys,k< x)∧q1∈PM∧q2∈PM∧(PM.Nodup→q1≠q2∧q1≠q∧q2≠q):=by
 obtain⟨n',P',g1,g2,g3,g4,g5,rfl⟩:=t;rw[hn] at g1;cases g1;obtain⟨v,hv⟩:∃v,nd.vals[j]? =some v:=⟨_,List.getElem?_eq_getElem (by have:=(List.getElem?_eq_some_iff.1 hk).1;omega)⟩;obtain⟨A,PA,M1,P1,M2,P2,B,PB,f1,f2,f3,f4,rfl,rfl⟩:=g5.pair h1 h2 (kvs_at g2 hk hv);have m1:q1∈P1:=f2.1.root_mem;have m2:q2∈P2:=f3.1.root_mem
 have s1:=(srt_app.1 (srt_app.1 hs).1).2.1;obtain⟨s2,s3,s4⟩:=srt_app.1 s1;obtain⟨s5, -⟩:=List.pairwise_cons.1 s3;refine⟨fun x hx=>?_,fun x hx=>?_,by simp[m1],by simp[m2],fun hd=>?_⟩
 ·obtain⟨v',hm⟩:=f2.1.key_mem ha hx
  exact s4 _ hm _ List.mem_cons_self
 ·obtain⟨v',hm⟩:=f3.1.key_mem hb hx
  exact s5 _ hm
 ·have hq:=List.nodup_cons.1 hd
  have hnd2:=List.nodup_append.1 (List.nodup_append.1 hq.2).1;exact⟨fun e=>(List.nodup_append.1 hnd2.2.1).2.2 q1 m1 q2 m2 e,fun e=>hq.1 (by rw[←e];simp[m1]),fun e=>hq.1 (by rw[←e];simp[m2])⟩
end
section
variable {rd rd':Nat→Option Nd} {h D root:Nat} {R:List KV} {P:List Nat} {k:Int} {d q q1 q2 j:Nat} {nd a b:Nd} {A M B:List KV} {P1 PM P2:List Nat} {kk vv:Int}
theorem DelAt.other (s:DelAt rd h D root R P k (d+1) q nd A M B P1 PM P2) (h1:nd.kids[j]? =some q1) (h2:nd.kids[j+1]? =some q2) (hk:nd.keys[j]? =some kk) (ha:rd q1=some a) (hb:rd q2=some b) (he:∀i∈P,i≠q1→i≠q2→i≠q→rd' i=rd i) :
  (∀i∈PM,i≠q1→i≠q2→i≠q→rd' i=rd i)∧(∀i∈P1,rd' i=rd i)∧(∀i∈P2,rd' i=rd i):=by
 obtain⟨e1,e2,e3,e4⟩:=s.apart;obtain⟨-, -,m1,m2, -⟩:=s.tr.around s.nd s.srt h1 h2 hk ha hb;refine⟨fun i hi=>he i (by rw[s.p];simp[hi]),fun i hi=>he i (by rw[s.p];simp[hi]) (fun e=>?_) (fun e=>?_) fun e=>?_,fun i hi=>he i (by rw[s.p];simp[hi]) (fun e=>?_) (fun e=>?_) fun e=>?_⟩
 ·exact e1 i hi (e▸m1)
 ·exact e1 i hi (e▸m2)
 ·exact e1 i hi (e▸e4)
 ·exact e2 i hi (e▸m1)
 ·exact e2 i hi (e▸m2)
 ·exact e2 i hi (e▸e4)
theorem DelAt.goes {nd' kd:Nd} {e:Nat} (s:DelAt rd h D root R P k (d+1) q nd' A M B P1 PM P2) (hf:nd'.keys.contains k=false) (hi:nd'.kids[atI nd'.keys k]? =some e) (he:rd e=some kd) :
  ∃A' M' B' P1' PM' P2',DelAt rd h D root R P k d e kd A' M' B' P1' PM' P2':=by
 obtain⟨e',nd2,A',M',B',P1',PM',P2',g1,g2⟩:=s.down hf;rw[hi] at g1;cases g1;have:=g2.nd;rw[he] at this;cases this;exact⟨A',M',B',P1',PM',P2',g2⟩
theorem DelAt.fillL (s:DelAt rd h D root R P k (d+1) q nd A M B P1 PM P2) (hf:nd.keys.contains k=false) (hi:atI nd.keys k=j+1) (h1:nd.kids[j]? =some q1) (h2:nd.kids[j+1]? =some q2) (hk:nd.keys[j]? =some kk) (hv:nd.vals[j]? =some vv) (ha:rd q1=some a) (hb:rd q2=some b) (hh:2≤h) (o1:h≤a.keys.length) (o2:b.keys.length+1≤2*h - 1) :
  ∃k1 v1,a.keys[a.keys.length - 1]? =some k1∧a.vals[a.keys.length - 1]? =some v1∧∀rd',rd' q1=some a.cutL→rd' q2=some (b.addF kk vv (a.kids.drop a.keys.length))→rd' q=some ⟨nd.keys.set j k1,nd.vals.set j v1,nd.kids⟩→(∀i∈P,i≠q1→i≠q2→i≠q→rd' i=rd i)→
   ∃P' A' M' B' P1' PM' P2',P'.Perm P∧DelAt rd' h D root R P' k d q2 (b.addF kk vv (a.kids.drop a.keys.length)) A' M' B' P1' PM' P2':=by
 obtain⟨-, -,e3,e4⟩:=s.apart;obtain⟨r1,r2, -, -, -⟩:=s.tr.around s.nd s.srt h1 h2 hk ha hb;obtain⟨k1,v1,w1,w2,w3⟩:=s.tr.left s.nd e3 hh h1 h2 hk hv ha hb o1 o2;refine⟨k1,v1,w1,w2,fun rd' g1 g2 g3 g4=>?_⟩;obtain⟨x1,x2,x3⟩:=s.other h1 h2 hk ha hb g4;obtain⟨PM',t,hp⟩:=w3 rd' g1 g2 g3 x1
 have hpp:(P1++PM'++P2).Perm P:=by rw[s.p];exact(hp.append_left P1).append_right P2
 have s2:=s.same g3 t (by
  rcases s.occ with e | e
  ·left;rw[nk_eq s.nd] at e;simp only[List.length_set];exact e
  ·exact .inr e) x2 x3 (hpp.nodup_iff.2 s.nod)
 have hkk:kk< k:=(atI_split nd.keys k (s.tr.keys s.nd s.srt)).1 kk (by
  rw[hi];exact List.mem_of_getElem? (show(nd.keys.take (j+1))[j]? =some kk by rw[List.getElem?_take,if_pos (by omega)];exact hk))
 have hk1:=r1 k1 (List.mem_of_getElem? w1);have ei:atI (nd.keys.set j k1) k=j+1:=by rw[atI_set hk ⟨fun _=>hkk,fun _=>by omega⟩,hi]
 obtain⟨A',M',B',P1',PM2,P2',s3⟩:=s2.goes (set_free hf (by omega)) (by rw[ei];exact h2) g2;exact⟨_,A',M',B',P1',PM2,P2',hpp,s3⟩
theorem DelAt.fillR (s:DelAt rd h D root R P k (d+1) q nd A M B P1 PM P2) (hf:nd.keys.contains k=false) (hi:atI nd.keys k=j) (h1:nd.kids[j]? =some q1) (h2:nd.kids[j+1]? =some q2) (hk:nd.keys[j]? =some kk) (hv:nd.vals[j]? =some vv) (ha:rd q1=some a) (hb:rd q2=some b) (hh:2≤h) (o1:h≤b.keys.length) (o2:a.keys.length+1≤2*h - 1) :
  ∃k1 v1,b.keys[0]? =some k1∧b.vals[0]? =some v1∧∀rd',rd' q1=some (a.addL kk vv (b.kids.take 1))→rd' q2=some b.cutF→rd' q=some ⟨nd.keys.set j k1,nd.vals.set j v1,nd.kids⟩→(∀i∈P,i≠q1→i≠q2→i≠q→rd' i=rd i)→
   ∃P' A' M' B' P1' PM' P2',P'.Perm P∧DelAt rd' h D root R P' k d q1 (a.addL kk vv (b.kids.take 1)) A' M' B' P1' PM' P2':=by
 obtain⟨-, -,e3,e4⟩:=s.apart;obtain⟨r1,r2, -, -, -⟩:=s.tr.around s.nd s.srt h1 h2 hk ha hb;obtain⟨k1,v1,w1,w2,w3⟩:=s.tr.right s.nd e3 hh h1 h2 hk hv ha hb o1 o2;refine⟨k1,v1,w1,w2,fun rd' g1 g2 g3 g4=>?_⟩;obtain⟨x1,x2,x3⟩:=s.other h1 h2 hk ha hb g4;obtain⟨PM',t,hp⟩:=w3 rd' g1 g2 g3 x1
 have hpp:(P1++PM'++P2).Perm P:=by rw[s.p];exact(hp.append_left P1).append_right P2
 have s2:=s.same g3 t (by
  rcases s.occ with e | e
  ·left;rw[nk_eq s.nd] at e;simp only[List.length_set];exact e
  ·exact .inr e) x2 x3 (hpp.nodup_iff.2 s.nod)
 have hkk:k< kk:=atI_missed (s.tr.keys s.nd s.srt) hf kk (by
  rw[hi];exact List.mem_of_getElem? (show(nd.keys.drop j)[0]? =some kk by rw[List.getElem?_drop];exact hk))
 have hk1:=r2 k1 (List.mem_of_getElem? w1);have ei:atI (nd.keys.set j k1) k=j:=by rw[atI_set hk ⟨fun _=>by omega,fun _=>by omega⟩,hi]
 obtain⟨A',M',B',P1',PM2,P2',s3⟩:=s2.goes (set_free hf (by omega)) (by rw[ei];exact h1) g1;exact⟨_,A',M',B',P1',PM2,P2',hpp,s3⟩
theorem DelAt.merged (s:DelAt rd h D root R P k (d+1) q nd A M B P1 PM P2) (hf:(nd.keys.eraseIdx j).contains k=false) (hi:atI (nd.keys.eraseIdx j) k=j) (h1:nd.kids[j]? =some q1) (h2:nd.kids[j+1]? =some q2) (hk:nd.keys[j]? =some kk) (hv:nd.vals[j]? =some vv) (ha:rd q1=some a) (hb:rd q2=some b) (hh:2≤h) (o:a.keys.length+b.keys.length+1≤2*h - 1) (hl:h≤nd.keys.length∨d+1=D) (h2k:2≤nd.keys.length) :
  ∀rd',rd' q1=some (a.one b kk vv)→rd' q=some ⟨nd.keys.eraseIdx j,nd.vals.eraseIdx j,nd.kids.eraseIdx (j+1)⟩→(∀i∈P,i≠q1→i≠q2→i≠q→rd' i=rd i)→
   ∃P' A' M' B' P1' PM' P2',(q2 :: P').Perm P∧DelAt rd' h D root R P' k d q1 (a.one b kk vv) A' M' B' P1' PM' P2':=by
 obtain⟨-, -,e3,e4⟩:=s.apart;intro rd' g1 g3 g4;obtain⟨x1,x2,x3⟩:=s.other h1 h2 hk ha hb g4;obtain⟨PM',t,hp⟩:=s.tr.merged s.nd e3 hh h1 h2 hk hv ha hb o h2k rd' g1 g3 x1
 have hpp:(q2 :: (P1++PM'++P2)).Perm P:=by
  rw[s.p];have h9:(q2 :: (P1++(PM'++P2))).Perm (P1++q2 :: (PM'++P2)):=List.perm_middle.symm
  have h8:(P1++q2 :: (PM'++P2)).Perm (P1++PM++P2):=by
   have:=(hp.append_left P1).append_right P2;simpa [List.append_assoc] using this
  rw[List.append_assoc P1 PM' P2];exact h9.trans h8
 have hnd:=(List.nodup_cons.1 (hpp.nodup_iff.2 s.nod)).2;have hjl:=(List.getElem?_eq_some_iff.1 hk).1;have lk:(nd.keys.eraseIdx j).length=nd.keys.length - 1:=List.length_eraseIdx_of_lt hjl;have s2:=s.same g3 t (hl.imp (fun e=>by simp only;omega) id) x2 x3 hnd;have h1l:=(List.getElem?_eq_some_iff.1 h1).1
 obtain⟨A',M',B',P1',PM2,P2',s3⟩:=s2.goes hf (by simp only;rw[hi,List.getElem?_eraseIdx,if_pos (by omega)];exact h1) g1;exact⟨_,A',M',B',P1',PM2,P2',hpp,s3⟩
theorem DelAt.shrunk (s:DelAt rd h D root R P k (d+1) q nd A M B P1 PM P2) (hd:d+1=D) (h1:nd.kids[0]? =some q1) (h2:nd.kids[1]? =some q2) (hk:nd.keys=[kk]) (hv:nd.vals=[vv]) (ha:rd q1=some a) (hb:rd q2=some b) (o:a.keys.length+b.keys.length+1≤2*h - 1) :
  q=root∧∀rd',rd' q=some (a.one b kk vv)→(∀i∈P,i≠q1→i≠q2→i≠q→rd' i=rd i)→
   ∃P',(q1 :: q2 :: P').Perm P∧DelAt rd' h d root R P' k d root (a.one b kk vv) [] M [] [] P' []:=by
 obtain⟨-, -,e3,e4⟩:=s.apart;obtain⟨rfl,rfl,rfl,rfl,rfl⟩:=s.top hd;refine⟨rfl,fun rd' g1 g4=>?_⟩;obtain⟨x1,x2,x3⟩:=s.other (j:=0) h1 h2 (by rw[hk];rfl) ha hb g4;obtain⟨PM',t,hp⟩:=s.tr.shrink s.nd e3 h1 h2 hk hv ha hb o rd' g1 x1;have hpp:(q1 :: q2 :: PM').Perm P:=by rw[s.p];simpa using hp
 have hnd:=(List.nodup_cons.1 (List.nodup_cons.1 (hpp.nodup_iff.2 s.nod)).2).2;obtain⟨nd',s2⟩:=DelAt.start t s.srt hnd s.has;have hr:R=delL M k:=by rw[s.res];simp
 rw[←hr] at s2;have:=s2.nd;rw[g1] at this;cases this;exact⟨PM',hpp,s2⟩
end
end
section
open Go.RowKit Go.Maps
section
variable {W:World} {N:Nat→Prop} {vk vv vc:Value} {l:List Int} {lk lv lc:List Value} {i g:Nat} {a:Int}
def InK (W w':World) (N:Nat→Prop) (vk vv vc:Value) (l:List Int) (lv lc:List Value) (i:Nat) (a:Int) (e:Ending):Prop:=
 ∃A c,e= .returned (.slice A (l.length+1) c)∧Rws w' (fun j=>N j∨(Value.slice A (l.length+1) c).ownBlock=some j) (.slice A (l.length+1) c) vv vc (iv (insI l i a)) lv lc∧Ap W w' vk (.slice A (l.length+1) c)
def InV (W w':World) (N:Nat→Prop) (vk vv vc:Value) (l:List Int) (lk lc:List Value) (i:Nat) (a:Int) (e:Ending):Prop:=
 ∃A c,e= .returned (.slice A (l.length+1) c)∧Rws w' (fun j=>N j∨(Value.slice A (l.length+1) c).ownBlock=some j) vk (.slice A (l.length+1) c) vc lk (iv (insI l i a)) lc∧Ap W w' vv (.slice A (l.length+1) c)
theorem insK (h:Rws W N vk vv vc (iv l) lv lc) (hl:l.length≤1000) (hi:i≤l.length) (hg:Blk W g 3 #[.int .i64 a]) (hne:vk.ownBlock≠some g) (hp:1≤W.heap.size) :
  Calls prog 44 #[vk,.int .i64 i,.slice (some ⟨g,0,none⟩) 1 1] W fun e w'=>InK W w' N vk vv vc l lv lc i a e:=by
 have hk:=h.rk;rw[iv_len] at hk;refine(binsert_any 1 vk l i g a W hk (by omega) hi hg hne hp).mono ?_;rintro e w' ⟨v',rfl,ho,ha⟩;obtain⟨A,c,rfl, -⟩:=own_shape ho;exact⟨A,c,rfl,h.setK ha (by rw[iv_len,insI_len a hi];exact ho),ha⟩
theorem insV (h:Rws W N vk vv vc lk (iv l) lc) (hl:l.length≤1000) (hi:i≤l.length) (hg:Blk W g 3 #[.int .i64 a]) (hne:vv.ownBlock≠some g) (hp:1≤W.heap.size) :
  Calls prog 44 #[vv,.int .i64 i,.slice (some ⟨g,0,none⟩) 1 1] W fun e w'=>InV W w' N vk vv vc l lk lc i a e:=by
 have hk:=h.rv;rw[iv_len] at hk;refine(binsert_any 1 vv l i g a W hk (by omega) hi hg hne hp).mono ?_;rintro e w' ⟨v',rfl,ho,ha⟩;obtain⟨A,c,rfl, -⟩:=own_shape ho;exact⟨A,c,rfl,h.setV ha (by rw[iv_len,insI_len a hi];exact ho),ha⟩
end
end
section
open Go.RowKit Go.Maps
attribute [local go_sem] Oper.semAt_some
theorem gall_any (p:Nat) (w W:World) (hW:w.alloc (.cells #[.pointer (some ⟨p,0,none⟩)] 25)=W) :
  Calls prog 51 #[.pointer (some ⟨p,0,none⟩)] w fun e w'=>e= .returned (.func (.func 92) #[] #[.pointer (some ⟨w.heap.size,0,none⟩)])∧W=w':=by
 subst hW;go_enter func51,ntmps51
 go_wp2
 go_ret
 exact⟨rfl,rfl⟩
structure GallIn (W:World) (bb p:Nat) (cs:Array Value) (A:Option Addr) (c:Nat) (l:List Nat):Prop where
 bb:Blk W bb 25 #[.pointer (some ⟨p,0,none⟩)]
 p:Blk W p 101 cs
 t:Sl W 1 A l.length (nv l)
theorem gall_iter (bb p y:Nat) (cs:Array Value) (A:Option Addr) (c:Nat) (l:List Nat) (J Jx:Nat→World→Prop) (w:World) (hl:l.length≤65536) (h4:cs[4]? =some (.slice A l.length c))
  (hin:∀i W,J i W→GallIn W bb p cs A c l)
  (hyld:∀i W s,J i W→l[i]? =some s→s≠0→YieldAt Fence.wide 0 prog y #[.int .i64 i] W (Rounded (J (i+1)) (Jx (i+1))))
  (hskip:∀i W,J i W→l[i]? =some 0→J (i+1) W) (h0:J 0 w) :
  Calls prog 92 #[.func (.yield y) #[] #[],.pointer (some ⟨bb,0,none⟩)] w fun e w'=>IterEnd (J l.length) (fun W=>∃i,Jx i W) e w':=by
 have Hin:=yH hin;have Hyld:=yH hyld;have Hsk:=yH hskip;have H0:=yH h0;obtain⟨c0,f0,s0⟩:=(hin 0 w h0).bb.facts;have cp4:=((hin 0 w h0).p.cell 4).trans h4;clear hin hyld h0 hskip
 (refine(callsIn_wide (n:=1)).1 (callsIn_of_wp func92 rfl trivial ?_ rfl);simp only[ntmps92,List.size_toArray,List.length_cons,List.length_nil,Nat.reduceAdd,Nat.reduceSub,Array.replicate_succ,Array.replicate_zero,List.push_toArray,List.append_toArray,List.nil_append,List.cons_append])
 gi_wp2
 clear c0 f0 s0 cp4;gi_loopg [3,4,10] (l.length) (fun n a1 a2 v wr=>∃i:Nat,n=l.length - i∧i≤l.length∧v= .int .i64 i∧J i wr)
 case atStart=>exact⟨0,by simp,by omega,rfl,H0.out⟩
 case round=>
  obtain⟨i,rfl,hi,rfl,hJ⟩:=hrel;have HJ:=yH hJ;have hI:=Hin.out i wr hJ;clear hJ;by_cases hlt:i< l.length
  ·obtain⟨s,hs⟩:∃s,l[i]? =some s:=⟨_,List.getElem?_eq_getElem hlt⟩
   obtain⟨g,off,rfl,hg,hx⟩:=hI.t.2 (by omega);have hc:=hx i (.int .i64 s) (by simp[nv,hs]);have u1:(0:Int)≤(i:Int):=by omega
   have u2:(i:Int)< (l.length:Int):=by omega
   have HS:=yH hs;clear hx hs hI;by_cases h0:s=0
   ·subst h0
    have HJ2:=yH (Hsk.out i wr HJ.out HS.out);gi_wp2
    refine⟨fun _ h=>(by cases h),?_⟩;gi_wp2
    gi_roundg (l.length - (i+1))
    case measure=>omega
    case rel=>exact⟨i+1,rfl,by omega,by simp,HJ2.out⟩
   ·have e1:((s:Int) !=0)=true:=by simpa using h0
    obtain⟨fn,tmps,assign,body,hy,hR⟩:=Hyld.out i wr s HJ.out HS.out h0;have HR:=yH hR;clear hR;gi_wp2_with (refine HR.out.mono ?_;rintro e w4 (⟨rfl,hJ2⟩ | ⟨rfl,hJ2⟩)<;>have HJ2:=yH hJ2<;>clear hJ2)
    ·gi_roundg (l.length - (i+1))
     case measure=>omega
     case rel=>exact⟨i+1,rfl,by omega,by simp,HJ2.out⟩
    ·refine bodyPost_end (results_none rfl _ _ _) rfl ?_
     exact⟨⟨_,rfl⟩,.inr ⟨_,HJ2.out⟩⟩
  ·obtain rfl:i=l.length:=by omega
   clear hI;gi_wp2
   refine bodyPost_end (results_none rfl _ _ _) rfl ?_;exact⟨⟨_,rfl⟩,.inl HJ.out⟩
def usedN (l:List Nat) (k:Nat):Nat:=cntN (fun j=>l.getD j 0 !=0) k
theorem usedN_succ {l:List Nat} {i s:Nat} (h:l[i]? =some s):usedN l (i+1)=usedN l i+if s=0 then 0 else 1:=by
 unfold usedN;rw[cntN_succ,List.getD_eq_getElem?_getD,h];by_cases h0:s=0<;>simp[h0]
structure UseJ (Wr W:World) (B L:Nat) (l:List Nat) (i:Nat) (r:Loop) (st:LoopState) (pe:Option Code):Prop where
 chg:Chg (fun j=>j=B∨j=L) Wr W
 blk:Blk W B 3 #[.int .i64 (usedN l i)]
 rc:Rec W L (Loop.at_ r st pe)
theorem UseJ.kept {Wr W W':World} {B L i:Nat} {l:List Nat} {r:Loop} {st st':LoopState} {pe pe':Option Code} (h:UseJ Wr W B L l i r st pe) (hk:Kept L W W') (hR:Rec W' L (Loop.at_ r st' pe')):UseJ Wr W' B L l i r st' pe':=
 ⟨Chg.trans h.chg hk.chg fun i _ e=> .inr e,h.blk.kept hk,hR⟩
theorem gusedn_any (p:Nat) (F:Nat→Prop) (X:Gp) (w:World) (h:GS w p F X) (hl:X.table.length≤4096) :
  Calls prog 18 #[.pointer (some ⟨p,0,none⟩)] w fun e w'=>e= .returned (.int .i64 (usedN X.table X.table.length))∧Grew w w':=by
 obtain⟨L0,d,b,A,ca,vp,vt,vo,h,hF⟩:=h;obtain⟨At,ct,rfl, -⟩:=own_shape h.tbl;obtain⟨bx,hbx⟩:∃b,w.heap.size=b:=⟨_,rfl⟩;obtain⟨W1,hW1⟩:∃W,w.alloc (.cells #[.int .i64 0] 3)=W:=⟨_,rfl⟩;have HB1:=yH (show Blk W1 bx 3 #[.int .i64 0] from hW1▸hbx▸Blk.new _ _ _);have HG1:=yH (show Grew w W1 from hW1▸(Chg.refl _ _).alloc _);have HW1:=yH hW1
 obtain⟨W6,hW6⟩:∃W6,W1.alloc (.cells #[.pointer (some ⟨p,0,none⟩)] 25)=W6:=⟨_,rfl⟩;have HB6:=yH (show Blk W6 W1.heap.size 25 #[.pointer (some ⟨p,0,none⟩)] from hW6▸Blk.new _ _ _);have HG6:=yH (show Grew W1 W6 from hW6▸(Chg.refl _ _).alloc _);have HA:=yH (gall_any p W1 W6 hW6);have H:=yH (yA h hF);have Hbx:=yH hbx;clear h hF hW1 hW6 hbx
 (refine calls_of_marks func18 rfl ?_;simp only[ntmps18,List.size_toArray,List.length_cons,List.length_nil,Nat.reduceAdd,Nat.reduceSub,Array.replicate_succ,Array.replicate_zero,List.push_toArray,List.append_toArray,List.nil_append,List.cons_append])
 go_wp2_with fail
 rw[HW1.out,Hbx.out];refine HA.out.mono ?_;rintro e w5 ⟨rfl,rfl⟩;go_wp2_with fail
 have hz1:=HB1.out.lt;have hz6:=HB6.out.lt;have hbw:=Hbx.out;refine wp_range (gf:=92) (lb:= #[.pointer (some ⟨W1.heap.size,0,none⟩)]) rfl (enters_of func92 (by kernel_rfl) rfl) ?_;intro r Wr D L hr hg1 hDl hLl hD hR;have HR1:=yH hr;have hDL:=Ne.symm (hR.ne_dfr hD);have hz7:=hg1.size;have hL2:=hR.lt;have hD2:=hD.lt
 have HGa:=yH (Grew.trans (Grew.trans HG1.out HG6.out) hg1);have HBp:=yH (HB6.out.grew hg1);have HPr:=yH (H.out.1.grew HGa.out);have HJ0:=yH (show UseJ Wr Wr bx L X.table 0 r .ready none from⟨Chg.refl _ _,(HB1.out.grew HG6.out).grew hg1,hR⟩);have HDf:=yH hD;have hlt:=H.out.1.lt;have HLT:=yH hlt;clear hr hg1 hD hR hlt
 refine(gall_iter W1.heap.size p L _ At ct X.table (fun i W=>UseJ Wr W bx L X.table i r .ready none) (fun _ _=>False) Wr (by omega) ?h4
  (fun i W hJ=>⟨HBp.out.chg hJ.chg ?h1,HPr.out.blk.chg hJ.chg ?h2,(Sl.of_own HPr.out.tbl).chg hJ.chg ?h3⟩)
  (fun i W s hJ hx h0=>?yld) (fun i W hJ hx=>?skp) HJ0.out).mono ?post
 case h4=>rfl
 case h1=>rintro(q | q)<;>omega
 case h2=>have:=HLT.out p (by rw[H.out.1.lp];omega);rintro(q | q)<;>omega
 case h3=>intro a ha;have:=HLT.out a.block (by rw[H.out.1.lb a.block (by rw[ha];rfl)];omega);rintro(q | q)<;>omega
 case skp=>exact⟨hJ.chg,by rw[usedN_succ hx];exact hJ.blk,hJ.rc⟩
 case yld=>
  have hil:i< X.table.length:=(List.getElem?_eq_some_iff.1 hx).1;have hus:=usedN_succ hx;rw[if_neg h0] at hus;have hcl:usedN X.table i≤i:=cntN_le _ _;have HU:=yH hus;have HJ:=yH hJ;clear hx hJ hus;obtain⟨hr1,hr2,hr3',hr4⟩:=HR1.out;refine yield_wide HJ.out.rc (by rw[hr2];rfl) ?_;rw[hr1,hr2,hr3',hr4];clear hr1 hr2 hr3' hr4;intro K hK;have HKK:=yH hK;clear hK;gi_wp2
  refine HKK.out _ _ HJ.out.rc fun W5 Q hk3 hR2 hQ=>?_;refine Code.wpIn_mono hQ ?_;have HJ5:=yH (HJ.out.kept hk3 hR2);clear hk3 hR2 hQ Q;obtain⟨c1,f1,s1⟩:=HJ5.out.blk.facts;gi_wp2
  obtain⟨W8,hW8⟩:∃W8,W5.setCell ⟨bx,0,none⟩ (.int .i64 ((usedN X.table i:Int)+1))=W8:=⟨_,rfl⟩;rw[hW8]
  have HJ8:UseJ Wr W8 bx L X.table (i+1) r .busy none:=by
   subst hW8;refine⟨HJ5.out.chg.setCell (p:=⟨bx,0,none⟩) (fun _=> .inl rfl) _,?_,HJ5.out.rc.chg ((Chg.refl (fun j=>j=bx) W5).setCell (p:=⟨bx,0,none⟩) (fun _=>rfl) _) (by omega)⟩;have:=HJ5.out.blk.put 0 (.int .i64 ((usedN X.table i:Int)+1));rw[HU.out];simpa using this
  exact⟨HJ8.rc,fun w' hk' hR'=> .inl ⟨rfl,HJ8.kept hk' hR'⟩⟩
 case post=>
  rintro e w3' ⟨hv,hJ⟩;refine⟨hv,?_⟩;rcases hJ with hJ | ⟨i,hJ⟩
  rotate_left
  ·exact hJ.elim
  refine .inl ⟨hJ.rc,fun w4 hk4=>?_⟩;have HC4:=yH (Chg.trans hJ.chg hk4.chg fun i _ e=> .inr e);have HB4:=yH (hJ.blk.kept hk4);clear hJ hk4;have HD4:=yH (HDf.out.chg HC4.out (by rintro(e | e)<;>omega));have hcw4:=HC4.out.size
  have HGw:=yH (show Grew w w4 from Chg.mono (Chg.trans (F:=fun j=>w.heap.size≤j) HGa.out.chg HC4.out fun i hi e=>by rcases e with e | e<;>omega) fun i hi e=>absurd e (by omega));obtain⟨c1,f1,s1⟩:=HB4.out.facts;go_wp2_with fail
  refine postM_ret1 (v:= .int .i64 (usedN X.table X.table.length)) (D:=D) HD4.out rfl fun w5 hk5=>⟨?_,?_⟩
  ·simp[results,results18,go_sem]
  ·exact⟨rfl,Chg.kept HGw.out hk5 (by omega)⟩
end
section
open Go.RowKit Go.Maps
section
variable (p i:Nat) (F:Nat→Prop) (x:Rp) (w:World)
theorem gp_used (h:GP w p F x) :
  Calls prog 18 #[.pointer (some ⟨p,0,none⟩)] w fun e' w'=>e'= .returned (.int .i64 (x.now.countP Pk.used))∧Grew w w':=by
 obtain⟨X,h1,h2,rfl⟩:=h
 have e:usedN X.table X.table.length=X.view.now.countP Pk.used:=by
  unfold usedN Gp.view;rw[cntN_countP,List.countP_map,countP_range X.table];refine List.countP_congr fun k hk=>?_;simp only[Function.comp,pk_used]
 rw[←e];exact gusedn_any p F X w h1 h2.inv.tb4.1
end
end
section
open Go.RowKit Go.Maps
theorem gfree_full (p i s:Nat) (F:Nat→Prop) (X:Gp) (o:Cg) (w:World) (h:GS w p F X) (hr:X.rdy=0) (hx:X.op=some o) (hz:X.Sz) (hn:X.D.n≤4096) (hi:X.table[i]? =some s) (hs:s≠0) (hm:X.room< (o.more (i / X.row) 0:Nat)) :
  Calls prog 63 #[.pointer (some ⟨p,0,none⟩),.int .i64 i] w fun e' w'=>e'= .returned (.int .i64 21)∧Grew w w':=by
 have hrd:=gready_any p F X w h;rw[hr] at hrd;have hus:=gused_in p i s F X w h (by have:=hz.tab.2;omega) hi;rw[show(s !=0)=true from by simpa using hs] at hus
 have htf:=gtouch_full p i (i / X.row) 0 F X o w h hx (by have:=hz.free;omega) (by have:=hz.row;omega) rfl (by have:=hz.tab.2;have:=(List.getElem?_eq_some_iff.1 hi).1;omega) (by omega) hm;have H:=yH (yA3 hrd hus htf);clear h hr hrd hus htf hx hz hn hi hs hm;go_enter func63,ntmps63
 go_wp2_with (first
  | (go_at_call 54;(refine H.out.1.mono ?_);rintro e w1 ⟨rfl,rfl⟩)
  | (go_at_call 57;(refine H.out.2.1.mono ?_);rintro e w1 ⟨rfl,rfl⟩)
  | (go_at_call 56;(refine H.out.2.2.mono ?_);rintro e w1 ⟨rfl,hg1⟩;have HG1:=yH hg1;clear hg1))
 go_ret
 exact⟨rfl,HG1.out⟩
theorem gfree_ok (p i s:Nat) (F:Nat→Prop) (X:Gp) (o:Cg) (w:World) (h:GS w p F X) (hr:X.rdy=0) (hx:X.op=some o) (hz:X.Sz) (hn:X.D.n≤4096) (hi:X.table[i]? =some s) (hs:s≠0) (hc:X.canLeave o s) (hll:o.left.length≤100000) (hm:(o.more (i / X.row) 0:Nat)≤X.room) :
  Calls prog 63 #[.pointer (some ⟨p,0,none⟩),.int .i64 i] w fun e' w'=>e'= .returned (.int .i64 0)∧GTo w w' p F (X.drop o i s):=by
 have hil:i< X.table.length:=(List.getElem?_eq_some_iff.1 hi).1;have hrd:=gready_any p F X w h;rw[hr] at hrd;have hus:=gused_in p i s F X w h (by have:=hz.tab.2;omega) hi;rw[show(s !=0)=true from by simpa using hs] at hus
 have htf:=gtouch_ok p i (i / X.row) 0 F X o w h hx (by have:=hz.free;omega) (by have:=hz.row;omega) rfl (hz.k64 hil) (by have:=hz.tab.2;omega) (by omega) hm;have hlv:=fun F1 w1 (h1:GS w1 p F1 (X.touch o (i / X.row)))=>gleave_any p s F1 (X.touch o (i / X.row)) (o.tch (i / X.row)) w1 h1 rfl (by have:=hz.free;simp only[Gp.touch];omega) hc hll
 have htb:((X.touch o (i / X.row)).leave (o.tch (i / X.row)) s).table=X.table:=by obtain⟨o', -,e, -⟩:=Gp.leave_op (X.touch o (i / X.row)) (o.tch (i / X.row)) s rfl;exact e
 have H:=yH (yA5 hrd hus htf hlv (yA hi htb));have u1:(0:Int)≤(i:Int):=by omega
 have u2:(i:Int)< (X.table.length:Int):=by omega
 have u3:(i:Int)< (((X.touch o (i / X.row)).leave (o.tch (i / X.row)) s).table.length:Int):=by rw[htb];exact u2
 clear h hr hrd hus htf hlv htb hx hz hn hi hs hm hc hll;go_enter func63,ntmps63
 go_wp2_with (first
  | (go_at_call 54;(refine H.out.1.mono ?_);rintro e w1 ⟨rfl,rfl⟩)
  | (go_at_call 57;(refine H.out.2.1.mono ?_);rintro e w1 ⟨rfl,rfl⟩)
  | (go_at_call 56;(refine H.out.2.2.1.mono ?_);rintro e w1 ⟨rfl,F1,hgs,hc1,hn1⟩;have HS1:=yH hgs;obtain⟨L1,d1,b1,A1,ca1,vp1,vt1,vo1,hg, -⟩:=hgs;obtain⟨c9,f9,s9⟩:=hg.blk.facts;obtain⟨g,ct1,rfl,hgl,hlg,hce,hfe⟩:=hg.entry (i:=i) (s:=s) (yP4 H.out).1;have HT:=yH (yA hc1 hn1);clear hg hc1 hn1)
  | (go_at_call 60;(refine(H.out.2.2.2.1 F1 _ HS1.out).mono ?_);clear c9 f9 s9 hgl hlg hce hfe;rintro e w2 ⟨rfl,F2,⟨L2,d2,b2,A2,ca2,vp2,vt2,vo2,hg,hF2⟩,hc2,hn2⟩;obtain⟨c9,f9,s9⟩:=hg.blk.facts;obtain⟨g2,ct2,rfl,hgl,hlg,hce,hfe⟩:=hg.entry (i:=i) (s:=s) (by rw[(yP4 H.out).2];exact(yP4 H.out).1);have HU:=yH (yA4 hg hF2 hc2 hn2);clear hg hF2 hc2 hn2))
 go_ret
 refine⟨rfl,?_⟩;have hh:=HU.out.1.tset rfl i 0;refine To.then HT.out.1 HT.out.2 (To.then HU.out.2.2.1 HU.out.2.2.2 ?_);have:=hh.1.to hh.2 (by omega) HU.out.2.1;rw[(yP4 H.out).2] at this;exact this
end
section
open Go.RowKit Go.Maps
theorem Gp.Ok.canLeave {X:Gp} {o:Cg} {i s:Nat} (h:X.Ok) (hx:X.op=some o) (hi:X.table[i]? =some s):X.canLeave o s:=by
 intro h2;have hv:=h.inv;simp only[Gp.old,Gp.fr,Gp.lf,Gp.tc,hx] at hv;refine⟨?_,fun hf=>?_⟩
 ·rw[hv.lens.1]
  rcases hv.cur i s hi h2 with e | e
  ·exact(hv.frr s e).2.1
  ·exact hv.rO i s e
 ·exact(hv.acct s (hv.frr s hf).2.1).2 (.inr (.inr (.inr hf)))
theorem Gp.Ok.drop {X:Gp} {o:Cg} {i s:Nat} (h:X.Ok) (hx:X.op=some o) (hi:X.table[i]? =some s) (hm:(o.more (i / X.row) 0:Nat)≤X.room):(X.drop o i s).Ok∧(X.drop o i s).view=X.view.put i .no:=by
 obtain⟨h1, -⟩:=h.tch hx (List.getElem?_eq_some_iff.1 hi).1 hm;have ht:setB o.touched (i / (X.D.sz / 2)) true (i / (X.D.sz / 2))=true:=by simp[setB]
 have hr:=h.row;by_cases hs:s≤1
 ·have h2:=h1.zero (v:=0) hi (by omega) (by omega) ht
  have e:X.drop o i s= { X.touch o (i / X.row) with table:=X.table.set i 0 }:=by unfold Gp.drop Gp.leave;rw[if_pos hs]
  rw[e];refine⟨⟨?_,h.row,h.up⟩,?_⟩
  ·rw[←h.row] at h2
   exact h2
  ·unfold Gp.view Rp.put Gp.touch
   simp only[Gp.fr,Gp.tc,hx,Option.map_some,Rp.row];rw[List.map_set,show pk X.D o.fresh 0= .no from rfl,hr]
 ·cases hf:o.fresh s with
  | true=>
   have h2:=h1.give hi hf ht
   have e:X.drop o i s= { X with free:=trn X.free s,table:=X.table.set i 0,op:=some { o with touched:=setB o.touched (i / X.row) true,fresh:=setB o.fresh s false } }:=by
    unfold Gp.drop Gp.leave Cg.tch;rw[if_neg hs];simp only[hf];rfl
   rw[e];refine⟨⟨?_,h.row,h.up⟩,?_⟩
   ·rw[←h.row] at h2
    exact h2
   ·unfold Gp.view Rp.put
    simp only[Gp.fr,Gp.tc,hx,Option.map_some,Rp.row]
    have e1:(X.table.set i 0).map (pk X.D (setB o.fresh s false))=(X.table.map (pk X.D o.fresh)).set i .no:=by
     have hil:i< X.table.length:=(List.getElem?_eq_some_iff.1 hi).1;apply List.ext_getElem?
     intro k;rw[set_at (by simpa using hil),List.getElem?_map,set_at hil,List.getElem?_map]
     by_cases hki:k=i
     ·subst hki
      rw[if_pos rfl,if_pos rfl];rfl
     ·rw[if_neg hki,if_neg hki]
      cases hk:X.table[k]? with
      | none=>rfl
      | some q=>
       have hq:q≠s:=by rintro rfl;exact hki (h1.jT k i q hk hi (by omega))
       simp only[Option.map_some,Option.some.injEq];unfold pk setB;rw[if_neg hq]
    rw[e1,hr]
  | false=>
   have h2:=h1.left hi (by omega) hf ht
   have e:X.drop o i s= { X with table:=X.table.set i 0,op:=some { o with touched:=setB o.touched (i / X.row) true,left:=o.left++[s] } }:=by
    unfold Gp.drop Gp.leave Cg.tch;rw[if_neg hs];simp only[hf];rfl
   rw[e];refine⟨⟨?_,h.row,h.up⟩,?_⟩
   ·rw[←h.row] at h2
    exact h2
   ·unfold Gp.view Rp.put
    simp only[Gp.fr,Gp.tc,hx,Option.map_some,Rp.row];rw[List.map_set,show pk X.D o.fresh 0= .no from rfl,hr]
section
variable (p i:Nat) (F:Nat→Prop) (x:Rp) (w:World)
theorem gp_free (c:Pk) (h:GP w p F x) (ho:x.was≠none) (hi:x.now[i]? =some c) (hu:c.used=true) (hm:(x.need (i / x.row) 0:Nat)≤x.room) :
  Calls prog 63 #[.pointer (some ⟨p,0,none⟩),.int .i64 i] w fun e' w'=>e'= .returned (.int .i64 0)∧GPTo w w' p F (x.put i .no):=by
 obtain⟨X,h1,h2,rfl⟩:=h;obtain⟨o,hx⟩:=Gp.view_op ho;obtain⟨s,hs,h0,rfl⟩:=Gp.entry_used hi hu;have hv:=h2.inv;simp only[Gp.old,Gp.fr,Gp.lf,Gp.tc,hx] at hv;have hm':(o.more (i / X.row) 0:Nat)≤X.room:=by rw[h2.room,Gp.more_need h2 hx];exact hm
 have:=h2.drop hx hs hm';refine(gfree_ok p i s F X o w h1 (h2.rdy hx) hx h2.sz hv.sz.2.1 hs h0 (h2.canLeave hx hs) (by have:=hv.lfle;omega) hm').mono ?_;rintro e w1 ⟨rfl,h3⟩;exact⟨rfl,h3.gp this.1 this.2⟩
end
end
section
open Go.RowKit Go.Maps
def IIt (P:Program) (k:TypeId) (w:World) (b it:Nat) (m:Int→Option Value) (s:Nat) (left:Int→Bool) (cnt:Nat):Prop:=
 ∃D lf,w.ranges P k rdV b it s D lf cnt∧Maps.size D=s∧Vw D m∧left=fun i=>lf (.int .i64 i)
def It (w:World) (it:Nat) (o:Obj):Prop:=w.heap[it]? =some o∧∃b s c n,o= .mapIter b s c n
section
variable {P:Program} {k t e:TypeId} {w w':World} {b it s cnt:Nat} {m:Int→Option Value} {left:Int→Bool} {o:Obj}
theorem It.book (h:It w it o):Book w it:=by
 obtain⟨h,b,s,c,n,rfl⟩:=h;exact⟨_,h,rfl⟩
theorem It.chg {F:Nat→Prop} (h:It w it o) (hc:Chg F w w') (hF:¬F it):It w' it o:=
 ⟨(hc.block it (Array.getElem?_eq_some_iff.1 h.1).1 hF).trans h.1,h.2⟩
theorem It.grew (h:It w it o) (hc:Grew w w'):It w' it o:=h.chg hc id
theorem IIt.has (h:IIt P k w b it m s left cnt):∃o,It w it o:=by
 obtain⟨D,lf,⟨es,clock,since,seen,c0,hb,hf,hn,hD,hr,rest⟩,_⟩:=h;exact⟨_,hr,_,_,_,_,rfl⟩
theorem IIt.imap (h:IIt P k w b it m s left cnt):IMap P k w b m s:=by
 obtain⟨D,lf,h,hs,hv,_⟩:=h;exact⟨D,h.owns,hs,hv⟩
theorem IIt.same (h:IIt P k w b it m s left cnt) {o:Obj} (ho:It w it o) (hb:w'.heap[b]? =w.heap[b]?) (ho':It w' it o):IIt P k w' b it m s left cnt:=by
 obtain⟨D,lf,⟨es,clock,since,seen,c0,hb0,hf,hn,hD,hr,rest⟩,h2⟩:=h
 have:o= .mapIter (some b) since seen c0:=by
  have:=ho.1;rw[hr] at this;exact(Option.some.inj this).symm
 subst this;exact⟨D,lf,⟨es,clock,since,seen,c0,hb.trans hb0,hf,hn,hD,ho'.1,rest⟩,h2⟩
theorem IMap.range_ (h:IMap P k w b m s) (K:Keyed P k) (ht:P.underlying t=some (.map k e)) :
  ∃w',(Instr.range t (.map (some b))).run P w= .ok (.pointer (some ⟨w.heap.size,0,none⟩)) w'∧IIt P k w' b w.heap.size m s (fun i=>(m i).isSome) s∧Grew w w'∧w'.heap.size=w.heap.size+1:=by
 obtain⟨D,ho,hs,hv⟩:=h;obtain⟨w',h1,h2,h3,h4⟩:=ho.range K ht;refine⟨w',h1,⟨D,_,hs▸h2,hs,hv,funext fun i=>?_⟩,(Chg.refl NoF w).grown h3 (fun j hj=>by cases hj),h4⟩
 cases hm:m i with
 | none=>rw[hv.no i hm];rfl
 | some v=>rw[(hv.yes i v hm).1];rfl
theorem IIt.next (h:IIt P k w b it m s left cnt) (K:Keyed P k) (hk:P.underlying k=some (.int .i64)) (ty:TypeId) :
  (cnt=0∧(∀i,left i=false)∧(Instr.next (.pointer (some ⟨it,0,none⟩)) false ty).run P w= .ok (.tuple #[.bool false]) w)∨
  ∃i v w' cnt',left i=true∧m i=some v∧(Instr.next (.pointer (some ⟨it,0,none⟩)) false ty).run P w= .ok (.tuple #[.bool true,.int .i64 i,v]) w'∧
   IIt P k w' b it m s (fun j=>left j && !decide (j=i)) cnt'∧cnt'< cnt∧Kept it w w'∧w'.heap.size=w.heap.size∧(Instr.entry (.pointer (some ⟨it,0,none⟩))).run P w'= .ok (.tuple #[.int .i64 i,v]) w':=by
 obtain⟨o,ho⟩:=h.has;obtain⟨D,lf,hr,hs,hv,rfl⟩:=h;rcases hr.next K ty with ⟨h0,hl,hrun⟩ | ⟨key,v,kl,y,w',cnt',hkey,hlk,hvy,hat,hrun,hrg,hlt,hgr,hsz,hen⟩
 ·exact .inl ⟨h0,fun i=>hl _,hrun⟩
 ·obtain⟨x,rfl,rfl,hwx⟩:=Maps.keyOf_int_inv hk hkey
  simp only[rdV,Option.some.injEq] at hvy;subst hvy
  have hmx:m x=some v:=by
   cases hm:m x with
   | none=>
    have h1:=hat .nil;rw[atKey_of_not_has (hv.no x hm)] at h1
    cases h1
   | some v'=>
    have h1:=hat .nil;rw[(hv.yes x v' hm).2 .nil] at h1;injection h1 with h1;rw[h1]
  refine .inr ⟨x,v,w',cnt',hlk,hmx,hrun,⟨D,_,hrg,hs,hv,funext fun j=>?_⟩,hlt,⟨(Chg.refl (fun j=>j=it) w).grown hgr fun j hj _=>by injection hj with hj;exact hj.symm,ho.book⟩,hsz,hen⟩
  have:((Lit.int .i64 j).sameKey (.int .i64 x))=decide (j=x):=by
   by_cases e:j=x
   ·subst e
    rw[WideAt.sameKey_self (keyLit _)];simp
   ·rw[show decide (j=x)=false from decide_eq_false e]
    cases hsk:(Lit.int .i64 j).sameKey (.int .i64 x) with
    | false=>rfl
    | true=>simp[Lit.sameKey] at hsk;exact absurd hsk e
  simp[this]
variable {F:Fence} {n:Nat} {ops:Array Oper} {rest:List Oper} {op:Oper} {a:Act} {Q:Exit→Act→World→Prop}
theorem wpListIn_range_im (hg:op.guard=none) (mo:Operand) (t:TypeId) (hop:op.op=Op.range t mo) (h:IMap P k w b m s) (K:Keyed P k) (ht:P.underlying t=some (.map k e)) (hm:a.eval mo= .map (some b))
  (hK:∀w',IIt P k w' b w.heap.size m s (fun i=>(m i).isSome) s→Grew w w'→w'.heap.size=w.heap.size+1→wpListIn F n P ops Q rest (a.put op.dst (.pointer (some ⟨w.heap.size,0,none⟩))) w') :
  wpListIn F n P ops Q (op :: rest) a w:=by
 refine wpListIn_plain hg fun K' hK'=>?_;obtain⟨w',hrun,r1,r2,r3⟩:=h.range_ K ht;unfold Oper.wpIn;refine⟨by simp[Oper.about,hop],?_⟩;rw[Oper.semAt_plain F _ _ (by rw[hop];intro c hc';cases hc')];simp[execOp,hop,hm,hrun,Result.andThen]
 exact hK' _ _ (hK w' r1 r2 r3)
theorem wpListIn_next_im (hg:op.guard=none) (ito:Operand) (hop:op.op=Op.next ito false) (h:IIt P k w b it m s left cnt) (K:Keyed P k) (hk:P.underlying k=some (.int .i64)) (hit:a.eval ito= .pointer (some ⟨it,0,none⟩))
  (hDone:cnt=0→(∀i,left i=false)→wpListIn F n P ops Q rest (a.put op.dst (.tuple #[.bool false])) w)
  (hMore:∀ (i:Int) (v:Value) (w':World) (cnt':Nat),left i=true→m i=some v→IIt P k w' b it m s (fun j=>left j && !decide (j=i)) cnt'→cnt'< cnt→Kept it w w'→w'.heap.size=w.heap.size→(Instr.entry (.pointer (some ⟨it,0,none⟩))).run P w'= .ok (.tuple #[.int .i64 i,v]) w'→wpListIn F n P ops Q rest (a.put op.dst (.tuple #[.bool true,.int .i64 i,v])) w') :
  wpListIn F n P ops Q (op :: rest) a w:=by
 refine wpListIn_plain hg fun K' hK'=>?_;unfold Oper.wpIn;refine⟨by simp[Oper.about,hop],?_⟩;rw[Oper.semAt_plain F _ _ (by rw[hop];intro c hc';cases hc')];rcases h.next K hk op.type with ⟨h0,hl,hrun⟩ | ⟨i,v,w',cnt',h1,h2,hrun,h3,h4,h5,h6,h7⟩
 ·simp[execOp,hop,hit,hrun,Result.andThen]
  exact hK' _ _ (hDone h0 hl)
 ·simp[execOp,hop,hit,hrun,Result.andThen]
  exact hK' _ _ (hMore i v w' cnt' h1 h2 h3 h4 h5 h6 h7)
end
end
section
open Go.RowKit Go.Maps
def gvn (fe:List Bool) (f:Nat→Bool):List Bool:=(List.range fe.length).map fun s=>fe.getD s false || f s
theorem gvn_len (fe:List Bool) (f:Nat→Bool):(gvn fe f).length=fe.length:=by simp[gvn]
theorem gvn_at (fe:List Bool) (f:Nat→Bool) (s:Nat):(gvn fe f).getD s false=(decide (s< fe.length) && (fe.getD s false || f s)):=by
 unfold gvn;rw[List.getD_eq_getElem?_getD,List.getElem?_map];by_cases h:s< fe.length
 ·rw[List.getElem?_range h];simp[h]
 ·rw[List.getElem?_eq_none (by simpa using h)];simp[h]
theorem list_getD {a b:List Bool} (hl:a.length=b.length) (h:∀s,s< a.length→a.getD s false=b.getD s false):a=b:=by
 apply List.ext_getElem hl
 intro i h1 h2;have:=h i h1;rw[List.getD_eq_getElem?_getD,List.getD_eq_getElem?_getD,List.getElem?_eq_getElem h1,List.getElem?_eq_getElem h2] at this;simpa using this
theorem gvn_none (fe:List Bool):gvn fe (fun _=>false)=fe:=list_getD (gvn_len _ _) fun s hs=>by
 rw[gvn_len] at hs;rw[gvn_at];simp[hs]
theorem gvn_more (fe:List Bool) (f:Nat→Bool) (s:Nat) (hs:s< fe.length) (h1:fe.getD s false=false) (h2:f s=false):trn (gvn fe f) s=gvn fe (setB f s true):=by
 have hg:(gvn fe f).getD s false=false:=by rw[gvn_at,h1,h2];simp
 refine list_getD (by simp[trn,gvn_len]) fun j hj=>?_;rw[trn_getD (by rw[gvn_len];exact hs),gvn_at fe (setB f s true),hg];have hj':j< fe.length:=by simpa [trn,gvn_len] using hj
 by_cases e:j=s
 ·subst e;simp[setB,hs]
 ·rw[if_neg e,gvn_at];simp[setB,e]
theorem gvn_give (fe:List Bool) (f:Nat→Bool) (s:Nat) (hs:s< fe.length) (h1:fe.getD s false=false) (h2:f s=false):toL (gvn fe f) (s:Int) true=(gvn fe (setB f s true),0):=by
 unfold toL;rw[gvn_len,if_neg (by omega),Int.toNat_natCast,if_neg (by rw[gvn_at,h1,h2];simp),gvn_more fe f s hs h1 h2]
def Gp.abort (X:Gp) (o:Cg):Gp:= { X with table:=o.was,free:=gvn X.free o.fresh,op:=none }
def gvF (fr:Nat→Bool) (left:Int→Bool):Nat→Bool:=fun s=>fr s && !left (s:Int)
theorem gvF_start (fr:Nat→Bool):gvF fr (fun i=>(mB fr i).isSome)=fun _=>false:=by
 funext s
 show(fr s && !(mB fr (s:Int)).isSome)=false;rw[mB_nat]
 cases fr s<;>rfl
theorem gvF_end (fr:Nat→Bool) (left:Int→Bool) (h:∀i,left i=false):gvF fr left=fr:=by
 funext s
 unfold gvF;rw[h];simp
theorem gvF_step (fr:Nat→Bool) (left:Int→Bool) (s:Nat) (hf:fr s=true):gvF fr (fun j=>left j && !decide (j=(s:Int)))=setB (gvF fr left) s true:=by
 funext j
 unfold gvF setB;by_cases e:j=s
 ·subst e;simp[hf]
 ·have:¬ (j:Int)=(s:Int):=by omega
  simp[e,this]
section
variable {w w':World} {L:Nat→Nat} {p d b ca c M1 s1 M2 s2:Nat} {X:Gp} {o:Cg} {A:Option Addr} {vp vt vw vl:Value} {F:Nat→Prop}
theorem GIn.abort (h:GIn w L p X d b A ca vp vt (some ⟨c,0,none⟩)) (hi:ChIn w L o c vw M1 s1 vl M2 s2) (hF:∀j,F j↔L j≠0) :
  GTo w ((w.setCell ⟨p,4,none⟩ vw).setCell ⟨p,6,none⟩ (.pointer none)) p F { X with table:=o.was,op:=none }:=by
 have hc:Chg (fun j=>j=p) w ((w.setCell ⟨p,4,none⟩ vw).setCell ⟨p,6,none⟩ (.pointer none)):=((Chg.refl (fun j=>j=p) w).setCell (p:=⟨p,4,none⟩) (fun _=>rfl) _).setCell (p:=⟨p,6,none⟩) (fun _=>rfl) _;have hcL:Chg (fun j=>L j=1) w ((w.setCell ⟨p,4,none⟩ vw).setCell ⟨p,6,none⟩ (.pointer none)):=hc.mono fun i _ e=>e▸h.lp
 obtain⟨L',hL'⟩:∃L':Nat→Nat,L'=fun j=>if L j=7 then 5 else if L j≤4 then L j else 0:=⟨_,rfl⟩
 have lo:∀j m,m≠0→m≤4→(L' j=m↔L j=m):=fun j m h0 h4=>by
  rw[hL'];dsimp only;split
  ·omega
  ·split<;>omega
 have hset:∀m,m≠0→m≤4→(fun j=>L' j=m)=(fun j=>L j=m):=fun m h1 h2=>funext fun j=>propext (lo j m h1 h2);have l5:∀j,L j=7→L' j=5:=fun j hj=>by rw[hL'];simp[hj]
 have lz:∀j,L' j≠0→L j≠0:=fun j hj e=>by rw[hL'] at hj;simp[e] at hj
 have hgi:GIn ((w.setCell ⟨p,4,none⟩ vw).setCell ⟨p,6,none⟩ (.pointer none)) L' p { X with table:=o.was,op:=none } d b A ca vp vw none:=by
  refine⟨?_,(lo p 1 (by omega) (by omega)).2 h.lp,?_,h.pol.chg hcL fun j hj e=>by have:=h.lo j hj;omega,fun j hj=>(lo j 3 (by omega) (by omega)).2 (h.lo j hj),own_lab h.pgs h.lg hcL (by omega),fun j hj=>(lo j 4 (by omega) (by omega)).2 (h.lg j hj),
   own_lab hi.was hi.lw hcL (by omega),fun j hj=>l5 j (hi.lw j hj),rfl,fun j hj=>Nat.lt_of_lt_of_le (h.lt j (lz j hj)) hc.size,?_,tab_chg h.tab hcL (by rw[h.l0];omega)⟩
  ·have:=(h.blk.put 4 vw).put 6 (.pointer none)
   simpa using this
  ·rw[hset 2 (by omega) (by omega)]
   exact h.dsk.chg hcL fun j hj e=>by omega
  ·rw[hL'];simp[h.l0]
 exact⟨fun j=>L' j≠0,hgi.gs,hc.mono fun i _ e=>(hF i).2 (by rw[e,h.lp];omega),fun j hj=> .inl ((hF j).2 (lz j hj))⟩
end
theorem gabort_ok (p:Nat) (F:Nat→Prop) (X:Gp) (o:Cg) (w:World) (h:GS w p F X) (hok:X.Ok) (hx:X.op=some o) :
  Calls prog 31 #[.pointer (some ⟨p,0,none⟩)] w fun e' w'=>e'= .returned (.int .i64 0)∧GTo w w' p F (X.abort o):=by
 have hrd:=gready_any p F X w h;rw[hok.rdy hx] at hrd;have hv:=hok.inv;simp only[Gp.old,Gp.fr,Gp.lf,Gp.tc,hx] at hv;obtain⟨L,d,b,A,ca,vp,vt,vo,h,hF⟩:=h;have ho:=h.opn;rw[hx] at ho;obtain⟨c,vw,M1,s1,vl,M2,s2,rfl,hi2⟩:=ho;obtain⟨c0,f0,s0⟩:=h.blk.facts;obtain⟨c1,f1,s1'⟩:=hi2.blk.facts
 obtain⟨W1,hrg,hI1,hg1,hz1⟩:=hi2.fr.range_ (t:=103) kInt underlying103
 have hfl:∀s,o.fresh s=true→2≤s∧s< X.free.length∧X.free.getD s false=false:=fun s hs=>by
  have:=hv.frr s hs;exact⟨this.1,by rw[hv.lens.1];exact this.2.1,(hv.acct s this.2.1).2 (.inr (.inr (.inr hs)))⟩
 have hxl:X.free.length≤4096:=by rw[hv.lens.1];exact hv.sz.2.1
 obtain⟨it,hit⟩:∃it,w.heap.size=it:=⟨_,rfl⟩;rw[hit] at hI1 hrg;have HX:=yH hx;have H:=yH (yA5 hrd h hi2 hF (yA5 hfl hI1 hg1 hz1 hit));clear h hrd hx hv hok hi2 hF hfl hI1 hg1 hz1 hit;go_enter func31,ntmps31
 go_wp2_with (go_at_call 54;(refine H.out.1.mono ?_);rintro e w1 ⟨rfl,rfl⟩)
 have hG1:GIn W1 L p { X with free:=gvn X.free (gvF o.fresh fun i=>(mB o.fresh i).isSome) } d b A ca vp vt (some ⟨c,0,none⟩):=by
  rw[gvF_start,gvn_none];exact H.out.2.1.grew (yP6 H.out).1
 have HG1:=yH hG1;clear hG1 c0 f0 s0 c1 f1 s1';go_loopg [] s1 (fun q wr=>∃left:Int→Bool,GIn wr L p { X with free:=gvn X.free (gvF o.fresh left) } d b A ca vp vt (some ⟨c,0,none⟩)∧IIt prog 3 wr M1 it (mB o.fresh) s1 left q∧Chg (fun j=>L j=3) w wr)
 case atStart=>exact⟨_,HG1.out,(yP4 H.out).2.1,(yP6 H.out).1.chg⟩
 case round=>
  obtain⟨left,hG,hI,hC⟩:=hrel;obtain⟨ob,hob⟩:=hI.has;have hitl:w.heap.size≤it:=by rw[(yP8 H.out)];exact Nat.le_refl _
  have hLit:∀j,L j≠0→j≠it:=fun j hj e=>by have:=H.out.2.1.lt j hj;omega
  rcases hI.next kInt underlying3 0 with ⟨h0,hl,hrun⟩ | ⟨i,v,w3,q',hli,hmi,hrun,hI3,hq,hk3,hz3,hen⟩
  ·have HD:=yH (yA3 hG hl hC)
   clear hG hI hC hl hob;have hop:=HD.out.1.opn;rw[show({ X with free:=gvn X.free (gvF o.fresh left) }:Gp).op=some o from HX.out] at hop
   obtain⟨c',vw',M1',s1'',vl',M2',s2'',hce,hi3⟩:=hop;obtain rfl:c=c':=by injection hce with e;injection e
   obtain⟨c0,f0,s0⟩:=HD.out.1.blk.facts;obtain⟨c1,f1,s1'⟩:=hi3.blk.facts;obtain⟨Aw,cw,rfl, -⟩:=own_shape hi3.was;have HI3:=yH hi3;clear hi3 hce;go_wp2
   go_ret
   refine⟨rfl,To.then (F1:=F) (HD.out.2.2.mono fun j _ e=>(H.out.2.2.2.1 j).2 (by omega)) (fun j hj=> .inl hj) ?_⟩;have:=HD.out.1.abort HI3.out H.out.2.2.2.1;rw[gvF_end _ _ HD.out.2.1] at this;exact this
  ·have hnt:∃s:Nat,i=(s:Int)∧o.fresh s=true:=by
    unfold mB at hmi;split at hmi
    ·rename_i hh
     exact⟨i.toNat,by omega,hh.2⟩
    ·cases hmi
   obtain⟨s,rfl,hfs⟩:=hnt;have hG3:GIn w3 L p { X with free:=gvn X.free (gvF o.fresh left) } d b A ca vp vt (some ⟨c,0,none⟩):=hG.chg hk3.chg hLit (fun e=>by have:=tab_pos H.out.2.1.tab;omega);have hfl:=(yP4 H.out).1 s hfs;have hgv:=pgive_any b s _ A ca w3 hG3.pol (by show(gvn X.free _).length≤65536;rw[gvn_len];omega)
   have htl:=gvn_give X.free (gvF o.fresh left) s hfl.2.1 hfl.2.2 (by unfold gvF;rw[hfs,hli];rfl)
   have hgv2:Calls prog 67 #[.pointer (some ⟨b,0,none⟩),.int .i64 (s:Int)] w3 fun e w'=>e= .returned (.int .i64 0)∧PIn w' b (gvn X.free (setB (gvF o.fresh left) s true)) A ca∧Chg (PF b A) w3 w':=by
    rw[←show(toL (gvn X.free (gvF o.fresh left)) (s:Int) true).1=gvn X.free (setB (gvF o.fresh left) s true) from by rw[htl]];refine hgv.mono fun e w' h=>?_;rw[show(toL ({ X with free:=gvn X.free (gvF o.fresh left) }:Gp).free (s:Int) true)=(gvn X.free (setB (gvF o.fresh left) s true),0) from htl] at h
    rw[htl];exact h
   have HR:=yH (yA5 hG3 hI3 hk3 hC (yA3 hgv2 hfs hLit));obtain⟨c0,f0,s0⟩:=hG3.blk.facts;clear hG hI hob hG3 hI3 hk3 hC hgv hgv2 htl hfl hli hmi hfs hLit;go_wp2_with (go_at_call 67;(refine(yP4 HR.out).1.mono ?_);rintro e w4 ⟨rfl,h4,h5⟩;have H4:=yH (yA h4 h5);clear h4 h5 c0 f0 s0)
   obtain⟨hG4,ht4⟩:=HR.out.1.pool H4.out.1 H4.out.2;obtain⟨ob3,hob3⟩:=HR.out.2.1.has;have h3F:∀j,PF b A j→L j=3:=H.out.2.1.lo;have hob4:It w4 it ob3:=hob3.chg H4.out.2 (fun e=>(yP6 HR.out) it (by have:=h3F it e;omega) rfl);have hI4:=HR.out.2.1.same hob3 (H4.out.2.block M1 HR.out.2.1.imap.lt (fun e=>by have:=h3F M1 e;have:=H.out.2.2.1.lf;omega)) hob4
   go_roundg q'
   case measure=>exact hq
   case rel=>
    refine⟨_,?_,hI4,Chg.trans (HR.out.2.2.2.1.kept HR.out.2.2.1 hitl) ht4.chg fun j _ e=>e⟩;rw[gvF_step _ _ s (yP4 HR.out).2.1];exact hG4
end
section
open Go.Shelf
def sortInt_ren:Go.Shelf.Ren:=⟨fun | 189=>53 | 125=>94 | 257=>93 | 128=>128 | 129=>129 | 294=>120 | 295=>121 | 296=>122 | 297=>123 | 298=>124 | 299=>125 | 216=>117 | 300=>126 | 301=>127 | 328=>152 | 329=>153 | 330=>154 | 331=>155 | 332=>156 | 215=>150 | 343=>173 | n=>n,fun | 28=>22 | 3=>3 | 46=>139 | 0=>0 | 51=>166 | 53=>153 | 4=>4 | 183=>160 | 182=>159 | 131=>81 | 5=>5 | 9=>9 | 218=>185 | 222=>91 | 228=>206 | 229=>122 | n=>n,fun | n=>n⟩
theorem sortInt:Go.Proofs.Lays.n189 prog sortInt_ren:= {
 mixed:=by kernel_rfl
 f125:=func94.trans (congrArg some (by kernel_rfl))
 f128:=func128.trans (congrArg some (by kernel_rfl))
 f129:=func129.trans (congrArg some (by kernel_rfl))
 f189:=func53.trans (congrArg some (by kernel_rfl))
 f215:=func150.trans (congrArg some (by kernel_rfl))
 f216:=func117.trans (congrArg some (by kernel_rfl))
 f257:=func93.trans (congrArg some (by kernel_rfl))
 f294:=func120.trans (congrArg some (by kernel_rfl))
 f295:=func121.trans (congrArg some (by kernel_rfl))
 f296:=func122.trans (congrArg some (by kernel_rfl))
 f297:=func123.trans (congrArg some (by kernel_rfl))
 f298:=func124.trans (congrArg some (by kernel_rfl))
 f299:=func125.trans (congrArg some (by kernel_rfl))
 f300:=func126.trans (congrArg some (by kernel_rfl))
 f301:=func127.trans (congrArg some (by kernel_rfl))
 f328:=func152.trans (congrArg some (by kernel_rfl))
 f329:=func153.trans (congrArg some (by kernel_rfl))
 f330:=func154.trans (congrArg some (by kernel_rfl))
 f331:=func155.trans (congrArg some (by kernel_rfl))
 f332:=func156.trans (congrArg some (by kernel_rfl))
 f343:=func173.trans (congrArg some (by kernel_rfl))
 t0:=underlying0
 a0:=Tryz.isAgg0
 z0:=Tryz.sizeOf0
 v0:=Tryz.zeroValue0
 t3:=underlying3
 a3:=Tryz.isAgg3
 z3:=Tryz.sizeOf3
 v3:=Tryz.zeroValue3
 t4:=underlying4
 a4:=Tryz.isAgg4
 z4:=Tryz.sizeOf4
 v4:=Tryz.zeroValue4
 t5:=underlying5
 a5:=Tryz.isAgg5
 z5:=Tryz.sizeOf5
 v5:=Tryz.zeroValue5
 t9:=underlying9
 a9:=Tryz.isAgg9
 z9:=Tryz.sizeOf9
 v9:=Tryz.zeroValue9
 t28:=underlying22
 a28:=Tryz.isAgg22
 z28:=Tryz.sizeOf22
 v28:=Tryz.zeroValue22
 t46:=underlying139
 a46:=Tryz.isAgg139
 z46:=Tryz.sizeOf139
 v46:=Tryz.zeroValue139
 t51:=underlying166
 a51:=Tryz.isAgg166
 z51:=Tryz.sizeOf166
 v51:=Tryz.zeroValue166
 t53:=underlying153
 a53:=Tryz.isAgg153
 z53:=Tryz.sizeOf153
 v53:=Tryz.zeroValue153
 t131:=underlying81
 a131:=Tryz.isAgg81
 z131:=Tryz.sizeOf81
 v131:=Tryz.zeroValue81
 t182:=underlying159
 a182:=Tryz.isAgg159
 z182:=Tryz.sizeOf159
 v182:=Tryz.zeroValue159
 t183:=underlying160
 a183:=Tryz.isAgg160
 z183:=Tryz.sizeOf160
 v183:=Tryz.zeroValue160
 t218:=underlying185
 a218:=Tryz.isAgg185
 z218:=Tryz.sizeOf185
 v218:=Tryz.zeroValue185
 t222:=underlying91
 a222:=Tryz.isAgg91
 z222:=Tryz.sizeOf91
 v222:=Tryz.zeroValue91
 t228:=underlying206
 a228:=Tryz.isAgg206
 z228:=Tryz.sizeOf206
 v228:=Tryz.zeroValue206
 t229:=underlying122
 a229:=Tryz.isAgg122
 z229:=Tryz.sizeOf122
 v229:=Tryz.zeroValue122 }
end
section
open Go.RowKit Go.Maps
attribute [local go_sem] Oper.semAt_some
structure ToldK (f:Nat→Bool) (xs:List Nat) (left:Int→Bool):Prop where
 nd:xs.Nodup
 sub:∀s∈xs,f s=true
 left:∀i,left i=true↔0≤i∧f i.toNat=true∧i.toNat∉xs
theorem ToldK.start (f:Nat→Bool):ToldK f [] (fun i=>(mB f i).isSome):=
 ⟨List.nodup_nil,fun _ h=>(by cases h),fun i=>by
  unfold mB;by_cases h:0≤i∧f i.toNat=true
  ·rw[if_pos h];simp[h]
  ·rw[if_neg h]
   simp only[Option.isSome_none,Bool.false_eq_true,List.not_mem_nil,not_false_eq_true,and_true,false_iff];exact h⟩
theorem ToldK.next {f:Nat→Bool} {xs:List Nat} {left:Int→Bool} (h:ToldK f xs left) {i:Int} (hl:left i=true):∃s:Nat,i=(s:Int)∧f s=true∧s∉xs∧ToldK f (xs++[s]) (fun j=>left j && !decide (j=i)):=by
 obtain⟨h0,h1,h2⟩:=(h.left i).1 hl;refine⟨i.toNat,by omega,h1,h2,List.nodup_append.2 ⟨h.nd,by simp,fun a ha b hb e=>by simp at hb;subst hb;subst e;exact h2 ha⟩,fun s hs=>?_,fun j=>?_⟩
 ·rcases List.mem_append.1 hs with e | e
  ·exact h.sub s e
  ·simp only[List.mem_singleton] at e;subst e;exact h1
 ·simp only[Bool.and_eq_true,h.left j,Bool.not_eq_true',decide_eq_false_iff_not,List.mem_append,List.mem_singleton,not_or]
  constructor
  ·rintro⟨⟨a,b,c⟩,d⟩;exact⟨a,b,c,fun e=>d (by omega)⟩
  ·rintro⟨a,b,c,d⟩;exact⟨⟨a,b,c⟩,fun e=>d (by rw[e])⟩
def keysL (f:Nat→Bool) (N:Nat):List Nat:=(List.range N).filter f
theorem ToldK.done {f:Nat→Bool} {xs:List Nat} {left:Int→Bool} {N:Nat} (h:ToldK f xs left) (hl:∀i,left i=false) (hN:∀s,f s=true→s< N):xs.Perm (keysL f N):=by
 refine(List.perm_ext_iff_of_nodup h.nd (List.nodup_range.filter _)).2 fun s=>?_;show s∈xs↔s∈(List.range N).filter f;rw[List.mem_filter,List.mem_range];constructor
 ·intro e;exact⟨hN s (h.sub s e),h.sub s e⟩
 ·rintro⟨-,e⟩
  by_cases hm:s∈xs
  ·exact hm
  ·have:=(h.left (s:Int)).2 ⟨by omega,by simpa using e,by simpa using hm⟩
   rw[hl] at this
   cases this
theorem ToldK.len {f:Nat→Bool} {xs:List Nat} {left:Int→Bool} {N:Nat} (h:ToldK f xs left) (hN:∀s,f s=true→s< N):xs.length≤N:=by
 have:=List.Nodup.length_le_of_subset h.nd (l₂:=List.range N) fun s hs=>List.mem_range.2 (hN s (h.sub s hs));rwa[List.length_range] at this
theorem mkeys_any (R:Nat) (w W:World) (hW:w.alloc (.cells #[.map (some R)] 103)=W) :
  Calls prog 102 #[.map (some R)] w fun e w'=>e= .returned (.func (.func 133) #[] #[.pointer (some ⟨w.heap.size,0,none⟩)])∧W=w':=by
 subst hW;go_enter func102,ntmps102
 go_wp2
 go_ret
 exact⟨rfl,rfl⟩
theorem mkeys_iter (bb y R s0 N:Nat) (f:Nat→Bool) (J:List Nat→World→Prop) (w:World) (hN:∀s,f s=true→s< N)
  (hin:∀xs W,J xs W→Blk W bb 103 #[.map (some R)]∧IMap prog 3 W R (mB f) s0)
  (hgr:∀xs W W',J xs W→Grew W W'→J xs W')
  (hkp:∀xs W W' it,J xs W→w.heap.size≤it→Kept it W W'→J xs W')
  (hyld:∀xs s W it o,J xs W→It W it o→w.heap.size≤it→f s=true→xs.length< N→YieldAt Fence.wide 0 prog y #[.int .i64 s] W fun e w'=>e= .returned (.bool true)∧J (xs++[s]) w'∧It w' it o∧w'.heap[R]? =W.heap[R]?)
  (h0:J [] w) :
  Calls prog 133 #[.func (.yield y) #[] #[],.pointer (some ⟨bb,0,none⟩)] w fun e w'=>(∃v,e= .returned v)∧∃xs,xs.Perm (keysL f N)∧J xs w':=by
 obtain⟨c1,f1,s1⟩:=(hin [] w h0).1.facts;have HM:=yH (hin [] w h0).2;have Hgr:=yH hgr;have Hkp:=yH hkp;have Hyld:=yH hyld;have H0:=yH h0;have HN:=yH hN;clear hin hgr hyld h0 hkp hN
 (refine(callsIn_wide (n:=1)).1 (callsIn_of_wp func133 rfl trivial ?_ rfl);simp only[ntmps133,List.size_toArray,List.length_cons,List.length_nil,Nat.reduceAdd,Nat.reduceSub,Array.replicate_succ,Array.replicate_zero,List.push_toArray,List.append_toArray,List.nil_append,List.cons_append])
 gi_wp2_with (gi_at_range;refine wpListIn_range_im rfl _ 103 rfl HM.out kInt underlying103 (by rfl) ?_;intro w1 hi1 hg1 hz1)
 have HJ1:=yH (Hgr.out _ _ _ H0.out hg1);have HI1:=yH hi1;clear hi1 hg1 c1 f1 s1;go_frame
 gi_loopg [3] s0 (fun n v wr=>∃ (cnt:Nat) (xs:List Nat) (left:Int→Bool),cnt≤n∧J xs wr∧IIt prog 3 wr R w.heap.size (mB f) s0 left cnt∧ToldK f xs left)
 case atStart=>exact⟨s0,[],_,Nat.le_refl _,HJ1.out,HI1.out,ToldK.start f⟩
 case round=>
  obtain⟨cnt,xs,left,hcn,hJ,hI,hT⟩:=hrel;have HJ:=yH hJ;have HI:=yH hI;have HT:=yH hT;clear hJ hI hT;gi_wp2_with (gi_at_next;refine wpListIn_next_im rfl _ rfl HI.out kInt underlying3 rfl ?_ ?_)
  ·intro hc0 hl0
   have HL0:=yH hl0;clear hc0 hl0;gi_wp2
   refine bodyPost_end (results_none rfl _ _ _) rfl ?_;exact⟨⟨_,rfl⟩,xs,HT.out.done HL0.out HN.out,HJ.out⟩
  ·intro i v w2 cnt2 hl hv hi2 hlt hk2 hz2 hen
   obtain⟨s,rfl,hs,hsx,hT2⟩:=HT.out.next hl;have HJ2:=yH (Hkp.out _ _ _ _ HJ.out (Nat.le_refl _) hk2);have HI2:=yH hi2;have HT2:=yH hT2;obtain⟨o,ho⟩:=hi2.has;have HO:=yH ho
   have hxl:xs.length< N:=by
    have h1:(xs++[s]).length≤N:=hT2.len HN.out;rw[List.length_append] at h1;exact h1
   obtain⟨fn,tmps,assign,body,hy,hR⟩:=Hyld.out xs s _ w.heap.size o HJ2.out HO.out (Nat.le_refl _) hs hxl;have HR:=yH hR;clear hl hv hi2 hk2 hT2 ho hs hsx hR hxl;gi_wp2_with (refine HR.out.mono ?_;rintro e w3 ⟨rfl,hJ3,hO3,hR3⟩;have HJ3:=yH (yA3 hJ3 hO3 hR3);clear hJ3 hO3 hR3)
   gi_roundg cnt2
   case measure=>omega
   case rel=>exact⟨cnt2,_,_,Nat.le_refl _,HJ3.out.1,HI2.out.same HO.out HJ3.out.2.2 HJ3.out.2.1,HT2.out⟩
def CollK (Wr W:World) (B:Nat) (xs:List Nat):Prop:=∃v,Blk W B 22 #[v]∧W.ownsRow Wr.heap.size 3 1 v xs.length (nv xs)
theorem CollK.grew {w W W':World} {B:Nat} {xs:List Nat} (h:CollK w W B xs) (hg:Grew W W'):CollK w W' B xs:=by
 obtain⟨v,hb,ho⟩:=h;exact⟨v,hb.grew hg,own_grew ho hg⟩
theorem CollK.kept {w W W':World} {B k:Nat} {xs:List Nat} (h:CollK w W B xs) (hk:Kept k W W'):CollK w W' B xs:=by
 obtain⟨v,hb,ho⟩:=h;exact⟨v,hb.kept hk,own_kept ho hk⟩
theorem CollK.more {w W W1:World} {F:Nat→Prop} {B n x:Nat} {xs:List Nat} {v v':Value} (hb:Blk W B 22 #[v]) (ho:W.ownsRow w.heap.size 3 1 v xs.length (nv xs)) (hw:Chg F w W) (hB:F B)
  (hn:n=xs.length+1) (ho':W1.ownsRow w.heap.size 3 1 v' n (nv xs++[.int .i64 x])) (hg:W.grownBy W1 v.ownBlock) :
  Blk W1 B 22 #[v]∧Chg F w (W1.setCell ⟨B,0,none⟩ v')∧CollK w (W1.setCell ⟨B,0,none⟩ v') B (xs++[x])∧Chg (fun j=>some j=v.ownBlock∨j=B) W (W1.setCell ⟨B,0,none⟩ v'):=by
 have hne:some B≠v.ownBlock:=fun e=>own_blk_ne ho hb (by decide) e.symm;have hb1:=hb.grown hg hne
 have hw1:Chg F w W1:=hw.grown hg fun k hk hlt=>by
  have:=(ho.lt k hk).1;omega
 refine⟨hb1,hw1.setCell (p:=⟨B,0,none⟩) (fun h=>hB) _,⟨v',?_,?_⟩,?_⟩
 ·have:=hb1.put 0 v'
  simpa using this
 ·have hc:Chg (fun j=>j=B) W1 (W1.setCell ⟨B,0,none⟩ v'):=(Chg.refl (fun j=>j=B) W1).setCell (p:=⟨B,0,none⟩) (fun _=>rfl) _
  have:=own_chg ho' hc fun g hg e=>own_blk_ne ho' hb1 (by decide) (by rw[hg,e]);subst hn;simpa [nv] using this
 ·exact((Chg.refl _ W).grown hg fun k hk _=> .inl hk.symm).setCell (p:=⟨B,0,none⟩) (fun _=> .inr rfl) _
theorem Rec.collK {w W X:World} {B L:Nat} {xs:List Nat} {v:Value} {r:Loop} (h:Rec W L r) (ho:W.ownsRow w.heap.size 3 1 v xs.length (nv xs)) (hb:Blk W B 22 #[v]) (hc:Chg (fun j=>some j=v.ownBlock∨j=B) W X):Rec X L r:=
 h.chg hc fun e=>by
  rcases e with e | e
  ·exact own_noBook ho e.symm h.isBook
  ·exact h.ne_blk hb e
theorem Dfr.collK {w W X:World} {B L:Nat} {xs:List Nat} {v:Value} (h:Dfr W L) (ho:W.ownsRow w.heap.size 3 1 v xs.length (nv xs)) (hb:Blk W B 22 #[v]) (hc:Chg (fun j=>some j=v.ownBlock∨j=B) W X):Dfr X L:=
 h.chg hc fun e=>by
  rcases e with e | e
  ·exact own_noBook ho e.symm h.isBook
  ·exact h.ne_blk hb e
def CollKJ (Wr W:World) (B D L:Nat) (r:Loop) (xs:List Nat):Prop:=Chg (fun j=>j=B∨j=L) Wr W∧CollK Wr W B xs∧Dfr W D∧Rec W L (Loop.at_ r .ready none)
theorem CollKJ.grew {Wr W W':World} {B D L:Nat} {r:Loop} {xs:List Nat} (h:CollKJ Wr W B D L r xs) (hg:Grew W W'):CollKJ Wr W' B D L r xs:=⟨h.1.grew hg,h.2.1.grew hg,h.2.2.1.grew hg,h.2.2.2.grew hg⟩
theorem CollKJ.itr {Wr W W':World} {B D L it:Nat} {r:Loop} {xs:List Nat} (h:CollKJ Wr W B D L r xs) (hge:Wr.heap.size≤it) (hk:Kept it W W') (hD:D< Wr.heap.size) (hL:L< Wr.heap.size):CollKJ Wr W' B D L r xs:=
 ⟨Chg.trans h.1 hk.chg fun i hi e=>by omega,h.2.1.kept hk,h.2.2.1.kept hk (by omega),h.2.2.2.kept hk (by omega)⟩
theorem kappend_any (bs R s0 N:Nat) (f:Nat→Bool) (w:World) (hb:Blk w bs 103 #[.map (some R)]) (hm:IMap prog 3 w R (mB f) s0) (hN:∀s,f s=true→s< N) (hl:N≤1000000) :
  Calls prog 158 #[.slice none 0 0,.func (.func 133) #[] #[.pointer (some ⟨bs,0,none⟩)]] w fun e w'=>∃l:List Nat,l.Perm (keysL f N)∧OwnOut w w' 3 1 l.length (nv l) (fun A c=> .slice A l.length c) e:=by
 have hbw:=hb.lt;have hmw:=hm.lt;have H:=yH (yA3 hb hm hN);clear hb hm hN;(refine calls_of_marks func158 rfl ?_;simp only[ntmps158,List.size_toArray,List.length_cons,List.length_nil,Nat.reduceAdd,Nat.reduceSub,Array.replicate_succ,Array.replicate_zero,List.push_toArray,List.append_toArray,List.nil_append,List.cons_append])
 go_wp2_with fail
 obtain⟨W0,hW0⟩:∃W0,w.alloc (.cells #[.slice none 0 0] 22)=W0:=⟨_,rfl⟩;have HG0:=yH (show Grew w W0 from hW0▸(Chg.refl _ _).alloc _);have HB:=yH (show Blk W0 w.heap.size 22 #[.slice none 0 0] from hW0▸Blk.new _ _ _);rw[hW0];clear hW0;refine wp_range (gf:=133) (lb:= #[.pointer (some ⟨bs,0,none⟩)]) rfl (enters_of func133 (by kernel_rfl) rfl) ?_
 intro r W2 D L hr hg1 hDl hLl hD hR;have HR1:=yH hr;have HG1:=yH (Grew.trans HG0.out hg1);have hDL:=Ne.symm (hR.ne_dfr hD);have hz0:=HB.out.lt;have hz3:=hg1.size;have hL2:=hR.lt;have hD2:=hD.lt;have HI:=yH (yA (H.out.1.grew HG1.out) (H.out.2.1.grew HG1.out))
 have HJ0:=yH (show CollKJ W2 W2 w.heap.size D L r [] from⟨Chg.refl _ _,⟨_,HB.out.grew hg1,World.ownsRow_nil _ _ _ _⟩,hD,hR⟩);clear hr hg1 hD hR
 refine(mkeys_iter bs L R s0 N f (fun xs W=>CollKJ W2 W w.heap.size D L r xs) W2 H.out.2.2
  (fun k W hJ=>⟨HI.out.1.chg hJ.1 (by omega),HI.out.2.chg hJ.1 (by omega)⟩) (fun k W W' hJ hg=>hJ.grew hg) (fun k W W' it hJ hge hk=>hJ.itr hge hk hD2 hL2) (fun xs x1 W it o hJ hit hge hx hlx=>?yld) HJ0.out).mono ?post
 case yld=>
  have HX:=yH hx;have hws:=hJ.1.size;have HR:=yH hJ.2.2.2;have HD:=yH hJ.2.2.1;have HT:=yH hit;obtain⟨v,hv1,hv2⟩:=hJ.2.1;have HV:=yH (yA3 hv1 hv2 hJ.1);have hneL:it≠L:=by omega
  clear hJ hx hv1 hv2 hit;obtain⟨hr1,hr2,hr3,hr4⟩:=HR1.out;refine yield_wide HR.out (by rw[hr2];rfl) ?_;rw[hr1,hr2,hr3,hr4];clear hr1 hr2 hr3 hr4;intro K hK;have HK:=yH hK;clear hK;gi_wp2
  refine HK.out _ _ HR.out fun W3 Q hk hR2 hQ=>?_;have HQ:=yH hQ;have HV1:=yH (HV.out.1.kept hk);have HV2:=yH (own_kept HV.out.2.1 hk);have HV3:=yH (Chg.trans HV.out.2.2 hk.chg fun i _ e=> .inr e);have HW5:=yH hR2;have HW6:=yH (HD.out.kept hk hDL);have HT3:=yH (HT.out.chg hk.chg hneL);have hRm:W3.heap[R]? =W.heap[R]? :=hk.chg.block R (by omega) (by omega);have HRm:=yH hRm
  have hsz:W.heap.size≤W3.heap.size:=hk.chg.size;clear hk hR2 hQ hRm;obtain⟨c2,f2,s2⟩:=HV1.out.facts;have hle2:xs.length≤1000000:=by omega
  obtain⟨i0,hi,hz0',hz1,hz2⟩:=info_parts i64Info_;have HV2a:=yH (own_grew HV2.out ((Chg.refl NoF W3).alloc (.cells #[.int .i64 x1] 3)));have HT4:=yH (HT3.out.grew ((Chg.refl NoF W3).alloc (.cells #[.int .i64 x1] 3)))
  gi_wp2_with (gi_at_builtin;refine wpListIn_append_own_at _ (by rfl) _ _ 22 (by rfl) W2.heap.size 3 i0 (.int .i64 0) 1 8 underlying22 hi hz0' hz1 hz2 rfl (by decide) v _ _ (by rfl) HV2a.out ⟨W3.heap.size,0,none⟩ 1 1 [.int .i64 x1] (by rfl) (by rfl) (news_one _ _ _) (by simp[Value.oneCell']) (by simp only[maxLen];omega) (by omega) (by simp;omega) ?_;intro v' w5 ho5 hg5 _ _;obtain⟨g',cap',rfl⟩:=ownsRow_succ ho5;have HM:=yH (CollK.more (HV1.out.alloc _) HV2a.out (HV3.out.alloc _) (.inl rfl) rfl ho5 hg5);clear ho5 hg5;obtain⟨c5,f5,s5⟩:=HM.out.1.facts)
  refine HQ.out _ _ _ ⟨(HW5.out.alloc _).collK HV2a.out (HV1.out.alloc _) HM.out.2.2.2,fun w' hk' hR'=>⟨rfl,⟨Chg.trans HM.out.2.1 hk'.chg fun i _ e=> .inr e,HM.out.2.2.1.kept hk',((HW6.out.alloc _).collK HV2a.out (HV1.out.alloc _) HM.out.2.2.2).kept hk' hDL,hR'⟩,
   (HT4.out.chg HM.out.2.2.2 (fun e=>by rcases e with e | e;exact own_noBook HV2a.out e.symm HT4.out.book;exact(HV1.out.alloc _).noBook (e▸HT4.out.book))).chg hk'.chg hneL,?_⟩⟩
  have hRw:R< W.heap.size:=by omega
  refine(hk'.chg.block R ?_ (by omega)).trans ((HM.out.2.2.2.block R ?_ ?_).trans ((Below.heap_alloc _ _ _ (by omega)).trans HRm.out))
  ·have:=HM.out.2.2.2.size;simp only[World.size_alloc] at this;omega
  ·simp only[World.size_alloc];omega
  ·rintro(e | e)
   ·have:=(HV2a.out.lt R e.symm).1;omega
   ·omega
 case post=>
  rintro e w3 ⟨hv,l,hpl,hJ⟩;refine⟨hv,.inl ⟨hJ.2.2.2,fun w4 hk4=>?_⟩⟩;obtain⟨v,hv1,hv2⟩:=hJ.2.1;obtain⟨A',c',rfl,_⟩:=own_shape hv2;have HV:=yH (yA (hv1.kept hk4) (own_kept hv2 hk4));have HD:=yH (hJ.2.2.1.kept hk4 hDL);have HC:=yH (Chg.trans hJ.1 hk4.chg fun i _ e=> .inr e);have HP:=yH hpl;clear hJ hk4 hv1 hv2 hpl;obtain⟨c2,f2,s2⟩:=HV.out.1.facts;go_wp2
  refine postM_ret1 (v:= .slice A' l.length c') HD.out rfl fun w5 hk5=>⟨by simp[results,results158,go_sem],l,HP.out,A',c',rfl,own_base (own_kept HV.out.2 hk5) (by have:=HG1.out.size;omega),?_⟩
  have hF:Grew w w4:=by
   refine Chg.mono (Chg.trans (F:=fun j=>w.heap.size≤j) HG1.out.chg HC.out fun i hi e=>?_) fun i hi e=>absurd e (by omega);rcases e with e | e<;>omega
  exact Chg.kept hF hk5 (by omega)
end
section
open Go.RowKit Go.Maps Go.Shelf Go.Sort
theorem putCells_takeI {cur:Array Value} {F:Array Int} (h:F.size≤cur.size):(putCells (Value.int .i64) 0 F cur).toList.take F.size=F.toList.map (Value.int .i64):=by
 apply List.ext_getElem?
 intro j;by_cases hj:j< F.size
 ·rw[List.getElem?_take_of_lt hj,Array.getElem?_toList]
  simp[putCells,hj,show j< cur.size by omega]
 ·rw[List.getElem?_take_eq_none (by omega),List.getElem?_eq_none (by simp;omega)]
theorem own_sortedI {w:World} {base g cap n:Nat} {e:TypeId} {os:Array Obj} {l:List Nat} {ys:List Int} (h:w.ownsRow base e 1 (.slice (some ⟨g,0,none⟩) l.length cap) l.length (nv l)) (hl:ys.length=l.length) :
  (grow (putRow (Value.int .i64) (Sort.ahead w n) g 0 ys.toArray) os).ownsRow base e 1 (.slice (some ⟨g,0,none⟩) l.length cap) l.length (ys.map (Value.int .i64))∧w.grownBy (grow (putRow (Value.int .i64) (Sort.ahead w n) g 0 ys.toArray) os) (some g):=by
 obtain⟨cur,hb,hg,hnc,hcm,hcs,htake,hxl⟩:=own_row h;have hgl:g< w.heap.size:=(Array.getElem?_eq_some_iff.1 hg).1
 have hh:(grow (putRow (Value.int .i64) (Sort.ahead w n) g 0 ys.toArray) os).heap[g]? =some (.cells (putCells (Value.int .i64) 0 ys.toArray cur) e (0,0)):=by
  rw[heap_grow_old _ _ (by simpa [putRow,mapBlock,Sort.ahead] using hgl)]
  simp[putRow,mapBlock,Sort.ahead,Array.getElem?_modify,hg,onCells]
 refine⟨⟨by simp[hl],.inr ⟨g,cap,_,rfl,hb,hh,hnc,hcm,by simp[putCells,hcs],?_⟩⟩,rfl,rfl,rfl,by simp[putRow,mapBlock,Sort.ahead,grow],fun k hk hne=>?_⟩
 ·have:=putCells_takeI (cur:=cur) (F:=ys.toArray) (by simp[hl];omega)
  rw[Nat.mul_one,←hl];simpa using this
 ·rw[heap_grow_old _ _ (by simpa [putRow,mapBlock,Sort.ahead] using hk)]
  have:g≠k:=fun e=>hne (by rw[e]);simp[putRow,mapBlock,Sort.ahead,Array.getElem?_modify,this]
theorem sorted_is {l:List Nat} {f:Nat→Bool} {N:Nat} (h:l.Perm (keysL f N)):(l.map fun n:Nat=>(n:Int)).mergeSort (fun x y=>decide (x≤y))=(keysL f N).map fun n:Nat=>(n:Int):=by
 have h1:=List.pairwise_mergeSort (le:=fun x y:Int=>decide (x≤y)) (fun a b c hab hbc=>by simp at*;omega) (fun a b=>by simp;omega) (l.map fun n:Nat=>(n:Int))
 have h2:((keysL f N).map fun n:Nat=>(n:Int)).Pairwise fun a b=>decide (a≤b)=true:=by
  rw[List.pairwise_map];have:(keysL f N).Pairwise (· < ·):=List.Pairwise.filter _ List.pairwise_lt_range;exact this.imp fun hab=>by simp;omega
 refine List.Perm.eq_of_pairwise (le:=fun a b:Int=>decide (a≤b)=true) (fun a b _ _ hab hba=>by simp at*;omega) h1 h2 ?_;exact(List.mergeSort_perm _ _).trans (h.map _)
theorem ksorted_any (bs R s0 N:Nat) (f:Nat→Bool) (w:World) (hb:Blk w bs 103 #[.map (some R)]) (hm:IMap prog 3 w R (mB f) s0) (hN:∀s,f s=true→s< N) (hl:N≤1000000) (hne:0< (keysL f N).length) :
  Calls prog 101 #[.func (.func 133) #[] #[.pointer (some ⟨bs,0,none⟩)]] w fun e w'=>OwnOut w w' 3 1 (keysL f N).length (nv (keysL f N)) (fun A c=> .slice A (keysL f N).length c) e:=by
 have H:=yH (kappend_any bs R s0 N f w hb hm hN hl)
 have hcol:Calls prog 132 #[.func (.func 133) #[] #[.pointer (some ⟨bs,0,none⟩)]] w fun e w'=>∃l:List Nat,l.Perm (keysL f N)∧OwnOut w w' 3 1 l.length (nv l) (fun A c=> .slice A l.length c) e:=by
  clear hb hm hN;go_enter func132,ntmps132
  go_wp2_with fail
  refine H.out.mono ?_;rintro e w1 ⟨l,hp,A,c,rfl,ho,hg⟩;have HO:=yH (yA3 hp ho hg);clear hp ho hg;go_wp2_with fail
  go_ret
  exact⟨l,HO.out.1,A,c,rfl,HO.out.2.1,HO.out.2.2⟩
 have HC:=yH hcol;clear hb hm hcol;go_enter func101,ntmps101
 go_wp2_with fail
 refine HC.out.mono ?_;rintro e w1 ⟨l,hp,A,c,rfl,ho,hg⟩;have hll:l.length=(keysL f N).length:=hp.length_eq;have hlN:l.length≤N:=by rw[hll];unfold keysL;exact Nat.le_trans (List.length_filter_le _ _) (by simp)
 cases A with
 | none=>
  obtain⟨h0,rfl⟩:=own_none ho
  omega
 | some a=>
  obtain⟨g,rfl,hgl⟩:=own_some ho;have hzl:(l.map fun n:Nat=>(n:Int)).length=l.length:=by simp
  have hso:=Any.slices_Sort_int sortInt g 0 c (l.map fun n:Nat=>(n:Int)) w1 (fun j hj=>by
   have hj':j< l.length:=by simpa using hj
   obtain⟨cur,hb,hgc,hnc,hcm,hcs,htake,hxl⟩:=own_row ho;refine⟨?_,by simp[World.frozen?,hgc]⟩;have:=ho.cells (g:=g) rfl j (.int .i64 (l[j]:Int)) (by simp[nv,hj']);rw[Addr.add_lit] at this;rw[this];simp[hj']) hgl (by rw[hzl];omega)
  rw[hzl,sorted_is hp] at hso;have hso2:Calls prog 53 #[.slice (some ⟨g,0,none⟩) l.length c] w1 fun e w'=>e= .returned (.tuple #[])∧∃n os,w'=grow (putRow (Value.int .i64) (Sort.ahead w1 n) g 0 ((keysL f N).map fun n:Nat=>(n:Int)).toArray) os:=hso;clear hso;have HO:=yH (yA4 hp ho hg hll);clear hp ho hg;rw[hll] at hso2;have HS:=yH hso2;clear hso2;go_wp2_with fail
  refine HS.out.mono ?_;rintro e w2 ⟨rfl,n,os,rfl⟩;have hr:=own_sortedI (n:=n) (os:=os) HO.out.2.1 (ys:=(keysL f N).map fun n:Nat=>(n:Int)) (by simp[hll]);obtain⟨W2,hW2⟩:∃W2,grow (putRow (Value.int .i64) (Sort.ahead w1 n) g 0 ((keysL f N).map fun n:Nat=>(n:Int)).toArray) os=W2:=⟨_,rfl⟩;rw[hW2] at hr ⊢;have HR:=yH hr;clear hr hW2;go_wp2_with fail
  go_ret
  refine OwnOut.mk (some ⟨g,0,none⟩) c rfl ?_ (HO.out.2.2.1.grown HR.out.2 fun k hk hlt=>by injection hk with hk;have:=(HO.out.2.1.lt g rfl).1;omega);rw[←hll];have:=HR.out.1;rw[List.map_map] at this;exact this
end
section
open Go.RowKit Go.Maps Go.Sort Go.Shelf
theorem own_putI {w:World} {base g cap q:Nat} {e:TypeId} {l ys:List Int} (h:w.ownsRow base e 1 (.slice (some ⟨g,0,none⟩) l.length cap) l.length (iv l)) (hl:ys.length=l.length) :
  (putRow (Value.int .i64) (Sort.ahead w q) g 0 ys.toArray).ownsRow base e 1 (.slice (some ⟨g,0,none⟩) l.length cap) l.length (iv ys)∧Chg (fun j=>j=g) w (putRow (Value.int .i64) (Sort.ahead w q) g 0 ys.toArray):=by
 obtain⟨cur,hb,hg,hnc,hcm,hcs,htake,hxl⟩:=own_row h;have hgl:g< w.heap.size:=(Array.getElem?_eq_some_iff.1 hg).1
 have hh:(putRow (Value.int .i64) (Sort.ahead w q) g 0 ys.toArray).heap[g]? =some (.cells (putCells (Value.int .i64) 0 ys.toArray cur) e (0,0)):=by
  simp[putRow,mapBlock,Sort.ahead,Array.getElem?_modify,hg,onCells]
 refine⟨⟨by simp[iv,hl],.inr ⟨g,cap,_,rfl,hb,hh,hnc,hcm,by simp[putCells,hcs],?_⟩⟩,rfl,rfl,rfl,by simp[Sort.ahead],fun k hk hne=>?_⟩
 ·have:=putCells_takeI (cur:=cur) (F:=ys.toArray) (by simp[hl];omega)
  rw[Nat.mul_one,←hl];simpa [iv] using this
 ·have:g≠k:=fun e=>hne e.symm
  simp[putRow,mapBlock,Sort.ahead,Array.getElem?_modify,this]
def DelOut (w w':World) (base:Nat) (v:Value) (l:List Int) (i:Nat) (e:Ending):Prop:=
 ∃A c,e= .returned (.slice A (l.length - 1) c)∧w'.ownsRow base 3 1 (.slice A (l.length - 1) c) (l.length - 1) (iv (l.eraseIdx i))∧Ap w w' v (.slice A (l.length - 1) c)
theorem bdelete_any (base:Nat) (v:Value) (l:List Int) (i:Nat) (w:World) (ho:w.ownsRow base 3 1 v l.length (iv l)) (hi:i< l.length) :
  Calls prog 69 #[v,.int .i64 i,.int .i64 (i+1:Nat)] w fun e w'=>DelOut w w' base v l i e:=by
 obtain⟨A,c,rfl, -⟩:=own_shape ho;obtain⟨g,rfl, -⟩:=own_block ho (by omega);obtain⟨cur,hb,hg,hnc,hcm,hcs,htake,hxl⟩:=own_row ho;have hB:Blk w g 3 cur:=hg
 have hH:Sort.Holds (Value.int .i64) w g 0 l.toArray:=fun j hj=>by
  have hj':j< l.length:=by simpa using hj
  refine⟨?_,by rw[Nat.zero_add];exact hB.frozen j⟩;have h1:(iv l)[j]? =cur[j]? :=by rw[←htake,Nat.mul_one,List.getElem?_take,if_pos hj'];simp
  rw[Nat.zero_add,hB.cell,←h1];simp[iv,hj']
 have hd:=Any.slices_Delete_int deleteInt g 0 c i (i+1) l w hH hnc (by simpa [maxLen] using hcm) (by omega) (by omega);refine hd.mono ?_;rintro e w' ⟨rfl,q,rfl⟩
 have hyl:(l.take i++l.drop (i+1)++List.replicate (i+1 - i) 0).length=l.length:=by
  rw[List.length_append,List.length_append,List.length_take,List.length_drop,List.length_replicate];omega
 obtain⟨h1,h2⟩:=own_putI (q:=q) (ys:=l.take i++l.drop (i+1)++List.replicate (i+1 - i) 0) ho hyl;have h3:=own_short h1 (m:=l.length - 1) (by omega);rw[show l.length - (i+1 - i)=l.length - 1 by omega];refine⟨_,_,rfl,?_,h2.mono fun j _ e=>by subst e;rfl,fun j hj=> .inl hj⟩
 have e1:(iv (l.take i++l.drop (i+1)++List.replicate (i+1 - i) 0)).take ((l.length - 1)*1)=iv (l.eraseIdx i):=by
  rw[List.eraseIdx_eq_take_drop_succ,←iv_take];congr 1
  refine List.take_left' ?_;rw[List.length_append,List.length_take,List.length_drop];omega
 rw[e1] at h3;exact h3
section
variable (p:Nat) (F:Nat→Prop) (x:Rp) (w:World)
theorem gp_free_full (i:Nat) (c:Pk) (h:GP w p F x) (ho:x.was≠none) (hi:x.now[i]? =some c) (hu:c.used=true) (hm:x.room< (x.need (i / x.row) 0:Nat)) :
  Calls prog 63 #[.pointer (some ⟨p,0,none⟩),.int .i64 i] w fun e' w'=>e'= .returned (.int .i64 21)∧Grew w w':=by
 obtain⟨X,h1,h2,rfl⟩:=h;obtain⟨o,hx⟩:=Gp.view_op ho;obtain⟨s,hs,h0,rfl⟩:=Gp.entry_used hi hu;have hv:=h2.inv;have hm':X.room< (o.more (i / X.row) 0:Nat):=by rw[h2.room,Gp.more_need h2 hx];exact hm
 exact gfree_full p i s F X o w h1 (h2.rdy hx) hx h2.sz hv.sz.2.1 hs h0 hm'
theorem gp_free_any (i:Nat) (c:Pk) (h:GP w p F x) (ho:x.was≠none) (hi:x.now[i]? =some c) (hu:c.used=true) :
  Calls prog 63 #[.pointer (some ⟨p,0,none⟩),.int .i64 i] w fun e' w'=>
   (e'= .returned (.int .i64 0)∧GPTo w w' p F (x.put i .no))∨(¬ (0≤x.slack)∧e'= .returned (.int .i64 21)∧Grew w w'):=by
 by_cases hm:(x.need (i / x.row) 0:Nat)≤x.room
 ·exact(gp_free p i F x w c h ho hi hu hm).mono fun e w' k=> .inl k
 ·refine(gp_free_full p F x w i c h ho hi hu (by omega)).mono ?_
  rintro e w' ⟨rfl,h3⟩;exact .inr ⟨fun hs=>hm (h.need (h.part (List.getElem?_eq_some_iff.1 hi).1) (by simpa using hs)),rfl,h3⟩
end
end
section
open Go.RowKit Go.Maps Go.Lib
theorem bgrow_nil (n:Nat) (w:World) (hn:n≤100000) :
  Calls prog 165 #[.slice none 0 0,.int .i64 n] w fun e w'=>OwnOut w w' 3 1 0 [] (fun A c=> .slice A 0 c) e:=by
 obtain⟨i0,hi0,hz0,hz1,hz2⟩:=info_parts i64Info_;by_cases h0:n=0
 ·subst h0
  clear hi0 hz0 hz1 hz2;go_enter func165,ntmps165
  go_wp2
  go_ret
  exact⟨none,0,rfl,World.ownsRow_nil _ _ _ _,Chg.refl _ _⟩
 ·have hrz:∀ty,(Builtin.append_ #[22,3] ty #[.slice none 0 0,.int .i64 (n:Nat)]).run prog w= .ok (.slice (some ⟨w.heap.size,0,none⟩) (0+n) (grownCap w (0+n) 0 3))
    (w.drew.alloc (.cells ((([]:List Value).toArray++Builtin.zeroCells (Value.int .i64 0).cells n)++Builtin.zeroCells (Value.int .i64 0).cells (grownCap w (0+n) 0 3 - (0+n))) 3)):=fun ty=>
   Lib.run_append_grow_zeros w 22 3 ty 3 i0 (.int .i64 0) .i64 .i64 underlying22 underlying3 hi0 hz0 none 0 0 [] (run_firstCells_none w.drew i0.size 0 0 0) n (by omega) (by omega) (by omega) (by omega) (by rw[hz2];omega) (growslice_fits (by omega) (by rw[hz2];omega))
  have hcap:=grownCap_ge w (0+n) 0 3;have hcap2:=grownCap_le_maxLen w (0+n) 0 3 (by simp only[maxLen];omega);obtain⟨cp,hcp⟩:∃q,grownCap w (0+n) 0 3=q:=⟨_,rfl⟩;rw[hcp] at hcap hcap2;simp only[hcp] at hrz
  obtain⟨cur,hcur⟩:∃q,(([]:List Value).toArray++Builtin.zeroCells (Value.int .i64 0).cells n)++Builtin.zeroCells (Value.int .i64 0).cells (cp - (0+n))=q:=⟨_,rfl⟩
  have hcs:cur.size=cp:=by
   rw[←hcur];simp only[Array.size_append,size_zeroCells,List.size_toArray,List.length_nil];simp[Value.cells]
   omega
  simp only[hcur] at hrz;have hn1:(0:Int)< (n:Int):=by omega
  simp only[maxLen] at hcap2;rw[Nat.zero_add] at hcap;have HR:=yH (yA hrz hcs);clear hrz hcs hcur hcp hi0 hz0 hz1 hz2;go_enter func165,ntmps165
  go_wp2_with (at_builtin;refine Lib.wpList_append_run _ rfl _ _ _ _ rfl _ _ rfl rfl _ _ (HR.out.1 _) ?_)
  go_ret
  refine⟨_,_,rfl,?_,(Chg.refl _ _).drew.alloc _⟩;exact own_mk (Nat.le_refl _) (Blk.new w.drew 3 cur) (Nat.zero_le _) (by simp only[maxLen];omega) HR.out.2 rfl (fun j hj=>by omega)
theorem run_append_nought {P:Program} {w:World} {t e:TypeId} {i:TypeInfo} (ht:P.underlying t=some (.slice e)) (hi:P.info? e=some i) (ty:TypeId) (b x:Option Addr) (n c c':Nat) (hn:n≤c) :
  (Builtin.append_ #[t,t] ty #[.slice b n c,.slice x 0 c']).run P w= .ok (.slice b n c) w:=by
 have hf:(Builtin.firstCells i.size 0 (.slice x 0 c')).run P w= .ok #[] w:=by
  cases x with
  | none=>exact run_firstCells_none w i.size 0 0 c'
  | some a=>exact run_firstCells_some w i.size 0 a 0 c' [] (by simp) (fun j v h=>by simp at h)
 cases b with
 | none=>simp[Builtin.append_,run_underlying ht,Go.sizeOf,typeInfo,hi,Builtin.lenOf,hf,hn]
 | some a=>simp[Builtin.append_,run_underlying ht,Go.sizeOf,typeInfo,hi,Builtin.lenOf,hf,hn,storeCells]
structure CatIt where
 v:Value
 xs:List Value
def catL (ls:List CatIt):List Value:=ls.flatMap fun it=>it.xs
def CatOk (w:World) (it:CatIt):Prop:=∃A n c,it.v= .slice A n c∧Sl w 1 A n it.xs∧(∀u∈it.xs,u.oneCell'=true)∧n≤1000
theorem catL_succ {ls:List CatIt} {k:Nat} {it:CatIt} (h:ls[k]? =some it):catL (ls.take (k+1))=catL (ls.take k)++it.xs:=by
 unfold catL;rw[List.take_add_one,h,List.flatMap_append];simp
theorem catL_le {w:World}:∀ {ls:List CatIt},(∀it∈ls,CatOk w it)→(catL ls).length≤1000*ls.length
 | [],_=>by simp[catL]
 | it :: t,h=>by
  have h1:=catL_le (ls:=t) fun i hi=>h i (List.mem_cons_of_mem _ hi);obtain⟨A,n,c, -,h2, -,h3⟩:=h it List.mem_cons_self;have h4:=h2.1;unfold catL at h1 ⊢;rw[List.flatMap_cons,List.length_append,List.length_cons];omega
theorem bconcat_any (g m c N:Nat) (ls:List CatIt) (w:World) (hb:Blk w g 22 (ls.map fun it=>it.v).toArray) (hm:ls.length=m) (hm2:m≤10) (hok:∀it∈ls,CatOk w it) (hN:(catL ls).length=N) :
  Calls prog 141 #[.slice (some ⟨g,0,none⟩) m c] w fun e w'=>OwnOut w w' 3 1 N (catL ls) (fun A c=> .slice A N c) e:=by
 obtain⟨i0,hi0,hz0,hz1,hz2⟩:=info_parts i64Info_;have hle:=catL_le hok;have H:=yH (yA5 hb hm hok hN (yA5 hi0 hz0 hz1 hz2 hle))
 have hsum:∀ (k:Nat) it A n c0,ls[k]? =some it→it.v= .slice A n c0→(catL (ls.take (k+1))).length=(catL (ls.take k)).length+n∧(catL (ls.take k)).length≤10000:=fun k it A n c0 h1 h2=>by
  obtain⟨A',n',c',e,h3, -, -⟩:=hok it (List.mem_of_getElem? h1);rw[h2] at e;cases e;have h4:=h3.1;refine⟨by rw[catL_succ h1,List.length_append];omega,?_⟩;have:=catL_le (ls:=ls.take k) fun i hi=>hok i (List.mem_of_mem_take hi);rw[List.length_take] at this;omega
 have HS:=yH hsum;clear hb hm hok hN hi0 hz0 hz1 hz2 hsum hle;go_enter func141,ntmps141
 go_wp2_with fail
 go_loopg [3,11] m (fun q sz i wr=>∃k,q=m - k∧k≤m∧i= .int .i64 k∧sz= .int .i64 ((catL (ls.take k)).length:Nat)∧w=wr)
 case atStart=>exact⟨0,rfl,Nat.zero_le _,rfl,rfl,rfl⟩
 case round=>
  obtain⟨k,rfl,hk,rfl,rfl,rfl⟩:=hrel;by_cases hlt:k< m
  ·obtain⟨it,hit⟩:∃it,ls[k]? =some it:=⟨_,List.getElem?_eq_getElem (by have:=H.out.2.1;omega)⟩
   obtain⟨A,n,c0,hv,hs, -,hn⟩:=H.out.2.2.1 it (List.mem_of_getElem? hit)
   have hce:w.cell? ⟨g,k,none⟩=some (.slice A n c0):=by
    rw[H.out.1.cell];simp[hit,hv]
   obtain⟨e1,e2⟩:=HS.out k it A n c0 hit hv;obtain⟨s0,hs0⟩:∃s,(catL (ls.take k)).length=s:=⟨_,rfl⟩;rw[hs0] at e1 e2 ⊢;have E1:=yH e1;clear e1 hs hit hv hs0;go_wp2_with fail
   go_roundg (m - (k+1))
   case measure=>omega
   case rel=>exact⟨k+1,rfl,by omega,by simp,by rw[E1.out];simp,rfl⟩
  ·obtain rfl:k=m:=by omega
   have hNN:(catL (ls.take k)).length=N:=by rw[←H.out.2.2.2.1,List.take_of_length_le (by have:=H.out.2.1;omega)]
   have hNb:N≤10000:=by have h1:=H.out.2.2.2.1;have h2:=(yP8 H.out);have h3:=H.out.2.1;omega
   rw[hNN];clear hNN hlt hk;have hgr:=bgrow_nil N w (by omega);have HG:=yH hgr;clear hgr;go_wp2_with fail
   refine HG.out.mono ?_;rintro e w1 ⟨A1,c1,rfl,ho1,hg1⟩;have H1:=yH (yA ho1 hg1);clear ho1 hg1;go_wp2_with fail
   go_loopg [6,27] k (fun q v i W2=>∃j,q=k - j∧j≤k∧i= .int .i64 j∧W2.ownsRow w.heap.size 3 1 v (catL (ls.take j)).length (catL (ls.take j))∧Grew w W2)
   case atStart=>exact⟨0,rfl,Nat.zero_le _,rfl,H1.out.1,H1.out.2⟩
   case round=>
    obtain⟨j,rfl,hj,rfl,ho,hgr⟩:=hrel;by_cases hlt:j< k
    ·obtain⟨it,hit⟩:∃it,ls[j]? =some it:=⟨_,List.getElem?_eq_getElem (by have:=H.out.2.1;omega)⟩
     obtain⟨A,n,c0,hv,hs,h1,hn⟩:=H.out.2.2.1 it (List.mem_of_getElem? hit)
     have hce:w.cell? ⟨g,j,none⟩=some (.slice A n c0):=by
      rw[H.out.1.cell];simp[hit,hv]
     have hgl:=H.out.1.lt;obtain⟨e1,e2⟩:=HS.out j it A n c0 hit hv;obtain⟨Av,cv,rfl,hncv⟩:=own_shape ho;obtain⟨s0,hs0⟩:∃s,(catL (ls.take j)).length=s:=⟨_,rfl⟩;rw[hs0] at e1 e2 ho hncv ⊢;have hce2:wr.cell? ⟨g,j,none⟩=some (.slice A n c0):=(hgr.cell (p:=⟨g,j,none⟩) hgl id).trans hce;have hs2:=hs.grew hgr;have hxl:it.xs.length=n:=by have:=hs.1;omega
     have H2:=yH (yA5 ho hgr e1 hs2 (yA3 h1 hxl hit));clear ho hgr e1 hs hs2 h1 hxl hit hs0 hce hv;by_cases hn0:n=0
     ·subst hn0
      have hra:=fun ty=>run_append_nought (P:=prog) (w:=wr) underlying22 (yP4 H.out).1 ty Av A s0 cv c0 hncv;have HRA:=yH hra;clear hra;go_wp2_with (at_builtin;refine Lib.wpList_append_run _ rfl _ _ _ _ rfl _ _ rfl rfl _ _ (HRA.out _) ?_)
      go_roundg (k - (j+1))
      case measure=>omega
      case rel=>
       obtain⟨q1,q2,q3,q4,q5,q6,q7⟩:=H2.out;refine⟨j+1,rfl,by omega,by simp,?_,q2⟩;rw[q3,catL_succ q7,List.eq_nil_of_length_eq_zero q6,List.append_nil];exact q1
     ·obtain⟨gb,off,rfl, -,hx⟩:=H2.out.2.2.2.1.2 (by omega)
      have HX:=yH hx;clear hx
      go_wp2_with (at_builtin;refine wpList_append_own _ rfl _ _ _ rfl w.heap.size 3 i0 _ 1 8 underlying22 (yP4 H.out).1 (yP4 H.out).2.1 (yP6 H.out).1 (yP6 H.out).2.1 rfl (by omega) (.slice Av s0 cv) s0 (catL (ls.take j)) rfl H2.out.1 ⟨gb,off,none⟩ n c0 it.xs rfl (by rw[Nat.mul_one];exact(yP4 H2.out).2.1) (fun j u hu=>by rw[Addr.add_lit];exact HX.out j u hu) (yP4 H2.out).1 (by simp only[maxLen];omega) (by omega) H2.out.2.1.size ?_;intro v1 w1 hown1 hgrow hnil;have HO:=yH hown1;have HG:=yH hgrow;clear hown1 hgrow hnil)
      go_roundg (k - (j+1))
      case measure=>omega
      case rel=>
       obtain⟨q1,q2,q3,q4,q5,q6,q7⟩:=H2.out;refine⟨j+1,rfl,by omega,by simp,?_,grew_row q2 q1 HG.out⟩;rw[q3,catL_succ q7];exact HO.out
    ·obtain rfl:j=k:=by omega
     rw[List.take_of_length_le (by have:=H.out.2.1;omega),H.out.2.2.2.1] at ho;obtain⟨A',c',rfl, -⟩:=own_shape ho;have HO:=yH (yA ho hgr);clear ho hgr hlt hj;go_wp2_with fail
     go_ret
     exact⟨A',c',rfl,HO.out.1,HO.out.2⟩
end
section
open Go.RowKit Go.Maps
def MgOut (G:Nat→Prop) (w w':World) (t p root ba qn q1 q2:Nat) (F N2:Nat→Prop) (x:Rp) (one nd':Nd) (last:Prop) (e:Ending):Prop:=
 (e= .returned (.int .i64 0)∧∃y F' N',BT w' t p root F' y∧Chg G w w'∧(∀j,F' j→F j∨w.heap.size≤j)∧(∀j,N' j→¬F' j)∧(∀j,N' j→N2 j∨w.heap.size≤j)∧x.like y∧
  ((last∧NdOwn w' N' ba root one∧y.nd root=some one∧(∀i,i≠q1→i≠q2→i≠root→y.nd i=x.nd i)∧y.now.countP Pk.used+2=x.now.countP Pk.used)∨
   (¬last∧NdOwn w' N' ba q1 one∧y.nd q1=some one∧y.nd qn=some nd'∧(∀i,i≠q1→i≠q2→i≠qn→y.nd i=x.nd i)∧y.now.countP Pk.used+1=x.now.countP Pk.used)))∨
 (e= .returned (.int .i64 21)∧FullG G w w' t p root F x 0)
structure Mg (W:World) (t p root:Nat) (F:Nat→Prop) (x:Rp) (N1 N2 N3:Nat→Prop) (bb q2:Nat) (nb:Nd):Prop where
 bt:BT W t p root F x
 nb:NdAt W N3 bb q2 nb
 d13:∀j,N1 j→¬N3 j
 d23:∀j,N2 j→¬N3 j
 d1F:∀j,N1 j→¬F j∧j≠t∧j≠0∧j< W.heap.size
 d2F:∀j,N2 j→¬F j∧j≠t∧j≠0∧j< W.heap.size
 d3F:∀j,N3 j→¬F j
 d12:∀j,N1 j→¬N2 j
section
variable {W W':World} {t p root bb q2:Nat} {F:Nat→Prop} {x:Rp} {N1 N2 N3:Nat→Prop} {nb:Nd}
theorem Mg.turn {G N1' N2':Nat→Prop} (h:Mg W t p root F x N1 N2 N3 bb q2 nb) (hc:Chg G W W') (hG:∀j,G j→N1 j∨N2 j) (h1:∀j,N1' j→N1 j∨W.heap.size≤j) (h2:∀j,N2' j→N2 j∨W.heap.size≤j) (h3:∀j,N1' j→¬N2' j) (l1:∀j,N1' j→j< W'.heap.size) (l2:∀j,N2' j→j< W'.heap.size) :
  Mg W' t p root F x N1' N2' N3 bb q2 nb:=by
 have hF:=h.bt.gp.lt;have ht:=h.bt.blk.lt;have hp:=tab_pos h.bt.gp.tab;have h3l:=h.nb.lt;have hz:=hc.size;have e:∀j,G j→¬F j∧j≠t∧j≠0:=fun j hj=>(hG j hj).elim (fun e=>⟨(h.d1F j e).1,(h.d1F j e).2.1,(h.d1F j e).2.2.1⟩) fun e=>⟨(h.d2F j e).1,(h.d2F j e).2.1,(h.d2F j e).2.2.1⟩;have e3:∀j,G j→¬N3 j:=fun j hj=>(hG j hj).elim (h.d13 j) (h.d23 j)
 refine⟨h.bt.chg hc (fun j hj g=>(e j g).1 hj) (fun g=>(e 0 g).2.2 rfl) (fun g=>(e t g).2.1 rfl),h.nb.chg hc fun j hj g=>e3 j g hj,fun j hj g=>?_,fun j hj g=>?_,fun j hj=>?_,fun j hj=>?_,h.d3F,h3⟩
 ·rcases h1 j hj with e | e
  ·exact h.d13 j e g
  ·have:=h3l j g;omega
 ·rcases h2 j hj with e | e
  ·exact h.d23 j e g
  ·have:=h3l j g;omega
 ·rcases h1 j hj with e | e
  ·obtain⟨a,b,c, -⟩:=h.d1F j e;exact⟨a,b,c,l1 j hj⟩
  ·exact⟨fun f=>by have:=hF j f;omega,by omega,by omega,l1 j hj⟩
 ·rcases h2 j hj with e | e
  ·obtain⟨a,b,c, -⟩:=h.d2F j e;exact⟨a,b,c,l2 j hj⟩
  ·exact⟨fun f=>by have:=hF j f;omega,by omega,by omega,l2 j hj⟩
end
theorem cat3 {W:World} {g n1 n2 n3 c1 c2 c3 N:Nat} {A1 A2 A3:Option Addr} {x1 x2 x3:List Value} (hb:Blk W g 22 #[.slice A1 n1 c1,.slice A2 n2 c2,.slice A3 n3 c3]) (h1:Sl W 1 A1 n1 x1) (h2:Sl W 1 A2 n2 x2) (h3:Sl W 1 A3 n3 x3)
  (o1:∀u∈x1,u.oneCell'=true) (o2:∀u∈x2,u.oneCell'=true) (o3:∀u∈x3,u.oneCell'=true) (hn:n1+n2+n3≤1000) (hN:n1+(n2+n3)=N) :
  Calls prog 141 #[.slice (some ⟨g,0,none⟩) 3 3] W fun e w'=>OwnOut W w' 3 1 N (x1++(x2++x3)) (fun A c=> .slice A N c) e:=by
 have e:catL [⟨.slice A1 n1 c1,x1⟩,⟨.slice A2 n2 c2,x2⟩,⟨.slice A3 n3 c3,x3⟩]=x1++(x2++x3):=by simp[catL]
 have:=bconcat_any g 3 3 N [⟨.slice A1 n1 c1,x1⟩,⟨.slice A2 n2 c2,x2⟩,⟨.slice A3 n3 c3,x3⟩] W hb rfl (by omega) (fun it hit=>by
  simp only[List.mem_cons,List.not_mem_nil,or_false] at hit;rcases hit with rfl | rfl | rfl
  ·exact⟨A1,n1,c1,rfl,h1,o1,by omega⟩
  ·exact⟨A2,n2,c2,rfl,h2,o2,by omega⟩
  ·exact⟨A3,n3,c3,rfl,h3,o3,by omega⟩) (by rw[e,List.length_append,List.length_append];have:=h1.1;have:=h2.1;have:=h3.1;omega)
 rw[e] at this;exact this
theorem cat2 {W:World} {g n1 n2 c1 c2 N:Nat} {A1 A2:Option Addr} {x1 x2:List Value} (hb:Blk W g 22 #[.slice A1 n1 c1,.slice A2 n2 c2]) (h1:Sl W 1 A1 n1 x1) (h2:Sl W 1 A2 n2 x2)
  (o1:∀u∈x1,u.oneCell'=true) (o2:∀u∈x2,u.oneCell'=true) (hn:n1+n2≤1000) (hN:n1+n2=N) :
  Calls prog 141 #[.slice (some ⟨g,0,none⟩) 2 2] W fun e w'=>OwnOut W w' 3 1 N (x1++x2) (fun A c=> .slice A N c) e:=by
 have e:catL [⟨.slice A1 n1 c1,x1⟩,⟨.slice A2 n2 c2,x2⟩]=x1++x2:=by simp[catL]
 have:=bconcat_any g 2 2 N [⟨.slice A1 n1 c1,x1⟩,⟨.slice A2 n2 c2,x2⟩] W hb rfl (by omega) (fun it hit=>by
  simp only[List.mem_cons,List.not_mem_nil,or_false] at hit;rcases hit with rfl | rfl
  ·exact⟨A1,n1,c1,rfl,h1,o1,by omega⟩
  ·exact⟨A2,n2,c2,rfl,h2,o2,by omega⟩) (by rw[e,List.length_append];have:=h1.1;have:=h2.1;omega)
 rw[e] at this;exact this
structure MgS (w W:World) (t p root:Nat) (F:Nat→Prop) (x:Rp) (N1 N2 N3 N1' N2':Nat→Prop) (bb q2:Nat) (nb:Nd) (ba q1:Nat) (vk vv vc:Value) (lk lv lc:List Value) (bn qn:Nat) (uk uv uc:Value) (mk mv mc:List Value):Prop where
 mg:Mg W t p root F x N1' N2' N3 bb q2 nb
 a:NdV W N2' ba q1 vk vv vc lk lv lc
 n:NdV W N1' bn qn uk uv uc mk mv mc
 ch:Chg (fun j=>N1 j∨N2 j) w W
 n1:∀j,N1' j→N1 j∨w.heap.size≤j
 n2:∀j,N2' j→N2 j∨w.heap.size≤j
section
variable {w W W1 w2 W3:World} {t p root bb q2 ba q1 bn qn:Nat} {F N1 N2 N3 N1' N2':Nat→Prop} {x:Rp} {nb:Nd} {vk vv vc uk uv uc v':Value} {lk lv lc mk mv mc l':List Value}
theorem MgS.start (h1:Mg w t p root F x N1 N2 N3 bb q2 nb) (h2:NdV w N2 ba q1 vk vv vc lk lv lc) (h3:NdV w N1 bn qn uk uv uc mk mv mc):MgS w w t p root F x N1 N2 N3 N1 N2 bb q2 nb ba q1 vk vv vc lk lv lc bn qn uk uv uc mk mv mc:=
 ⟨h1,h2,h3,Chg.refl _ _,fun _ h=> .inl h,fun _ h=> .inl h⟩
theorem new_ap {base:Nat} {v v':Value} {n:Nat} {xs:List Value} (hg:Grew W1 w2) (ho:w2.ownsRow W1.heap.size 3 1 v' n xs) (hb:base=W1.heap.size):Ap W1 w2 v v':=
 ⟨hg.chg,fun j hj=> .inr (ho.lt j hj).1⟩
theorem MgS.aset (s:MgS w W t p root F x N1 N2 N3 N1' N2' bb q2 nb ba q1 vk vv vc lk lv lc bn qn uk uv uc mk mv mc) (hg1:Grew W W1) (hg2:Grew W1 w2) (hlt:∀g,v'.ownBlock=some g→W.heap.size≤g∧g< w2.heap.size) (hc3:Chg (fun j=>j=ba) w2 W3) :
  Mg W3 t p root F x N1' (fun j=>N2' j∨v'.ownBlock=some j) N3 bb q2 nb∧NdV W3 N1' bn qn uk uv uc mk mv mc∧Chg (fun j=>N1 j∨N2 j) w W3∧∀j,(N2' j∨v'.ownBlock=some j)→N2 j∨w.heap.size≤j:=by
 have hc:Chg (fun j=>j=ba) W W3:=Grew.then (Grew.trans hg1 hg2) hc3;have hba:ba< W.heap.size:=s.a.blk.lt;have hz:=hc3.size;have hz0:=s.ch.size;have hzg:=(Grew.trans hg1 hg2).size;have hn1l:=s.n.lt;have hn2l:=s.a.lt
 refine⟨s.mg.turn hc (fun j hj=> .inr (hj▸s.a.nb)) (fun j hj=> .inl hj) (fun j hj=>hj.imp id fun e=>(hlt j e).1) (fun j hj e=>?_) (fun j hj=>by have:=hn1l j hj;omega) (fun j hj=>?_),s.n.chg hc fun j hj e=>s.mg.d12 j hj (e▸s.a.nb),Chg.trans s.ch hc fun j hj e=>?_,fun j hj=>?_⟩
 ·rcases e with e | e
  ·exact s.mg.d12 j hj e
  ·have:=(hlt j e).1;have:=hn1l j hj;omega
 ·rcases hj with e | e
  ·have:=hn2l j e;omega
  ·have:=(hlt j e).2;omega
 ·subst e
  exact .inr ((s.n2 _ s.a.nb).resolve_right (by omega))
 ·rcases hj with e | e
  ·exact s.n2 j e
  ·have:=(hlt j e).1;exact .inr (by omega)
theorem MgS.aK (s:MgS w W t p root F x N1 N2 N3 N1' N2' bb q2 nb ba q1 vk vv vc lk lv lc bn qn uk uv uc mk mv mc) (hg1:Grew W W1) (hg2:Grew W1 w2) (ho:w2.ownsRow W1.heap.size 3 1 v' l'.length l') (hW:w2.setCell ⟨ba,1,none⟩ v'=W3) (hp:1≤W1.heap.size) :
  MgS w W3 t p root F x N1 N2 N3 N1' (fun j=>N2' j∨v'.ownBlock=some j) bb q2 nb ba q1 v' vv vc l' lv lc bn qn uk uv uc mk mv mc:=by
 have hz:=hg1.size;obtain⟨h1,h2,h3,h4⟩:=s.aset hg1 hg2 (fun g hg=>by have:=ho.lt g hg;omega) (hW▸(Chg.refl (fun j=>j=ba) w2).setCell (p:=⟨ba,1,none⟩) (fun _=>rfl) v');exact⟨h1,(s.a.chg hg1 fun _ _=>id).setK (new_ap hg2 ho rfl) (own_base ho hp) hW,h2,h3,s.n1,h4⟩
theorem MgS.aV (s:MgS w W t p root F x N1 N2 N3 N1' N2' bb q2 nb ba q1 vk vv vc lk lv lc bn qn uk uv uc mk mv mc) (hg1:Grew W W1) (hg2:Grew W1 w2) (ho:w2.ownsRow W1.heap.size 3 1 v' l'.length l') (hW:w2.setCell ⟨ba,2,none⟩ v'=W3) (hp:1≤W1.heap.size) :
  MgS w W3 t p root F x N1 N2 N3 N1' (fun j=>N2' j∨v'.ownBlock=some j) bb q2 nb ba q1 vk v' vc lk l' lc bn qn uk uv uc mk mv mc:=by
 have hz:=hg1.size;obtain⟨h1,h2,h3,h4⟩:=s.aset hg1 hg2 (fun g hg=>by have:=ho.lt g hg;omega) (hW▸(Chg.refl (fun j=>j=ba) w2).setCell (p:=⟨ba,2,none⟩) (fun _=>rfl) v');exact⟨h1,(s.a.chg hg1 fun _ _=>id).setV (new_ap hg2 ho rfl) (own_base ho hp) hW,h2,h3,s.n1,h4⟩
theorem MgS.aC (s:MgS w W t p root F x N1 N2 N3 N1' N2' bb q2 nb ba q1 vk vv vc lk lv lc bn qn uk uv uc mk mv mc) (hg1:Grew W W1) (hg2:Grew W1 w2) (ho:w2.ownsRow W1.heap.size 3 1 v' l'.length l') (hW:w2.setCell ⟨ba,3,none⟩ v'=W3) (hp:1≤W1.heap.size) :
  MgS w W3 t p root F x N1 N2 N3 N1' (fun j=>N2' j∨v'.ownBlock=some j) bb q2 nb ba q1 vk vv v' lk lv l' bn qn uk uv uc mk mv mc:=by
 have hz:=hg1.size;obtain⟨h1,h2,h3,h4⟩:=s.aset hg1 hg2 (fun g hg=>by have:=ho.lt g hg;omega) (hW▸(Chg.refl (fun j=>j=ba) w2).setCell (p:=⟨ba,3,none⟩) (fun _=>rfl) v');exact⟨h1,(s.a.chg hg1 fun _ _=>id).setC (new_ap hg2 ho rfl) (own_base ho hp) hW,h2,h3,s.n1,h4⟩
theorem MgS.nset {uk' uv' uc':Value} {mk' mv' mc':List Value} {N1'':Nat→Prop} (s:MgS w W t p root F x N1 N2 N3 N1' N2' bb q2 nb ba q1 vk vv vc lk lv lc bn qn uk uv uc mk mv mc) (hc:Chg N1' W W3) (hn:NdV W3 N1'' bn qn uk' uv' uc' mk' mv' mc') (h1:∀j,N1'' j→N1' j∨W.heap.size≤j) :
  MgS w W3 t p root F x N1 N2 N3 N1'' N2' bb q2 nb ba q1 vk vv vc lk lv lc bn qn uk' uv' uc' mk' mv' mc':=by
 have hz0:=s.ch.size;have hz:=hc.size;have hn2l:=s.a.lt;refine⟨s.mg.turn hc (fun j hj=> .inl hj) h1 (fun j hj=> .inl hj) (fun j hj e=>?_) hn.lt (fun j hj=>by have:=hn2l j hj;omega),s.a.chg hc fun j hj e=>s.mg.d12 j e hj,hn,Chg.trans s.ch hc fun j hj e=> .inl ((s.n1 j e).resolve_right (by omega)),fun j hj=>?_,s.n2⟩
 ·rcases h1 j hj with e2 | e2
  ·exact s.mg.d12 j e2 e
  ·have:=hn2l j e;omega
 ·rcases h1 j hj with e2 | e2
  ·exact s.n1 j e2
  ·exact .inr (by omega)
end
theorem eraseIdx_mem {α:Type} {l:List α} {i:Nat} {a:α} (h:a∈l.eraseIdx i):a∈l:=List.mem_of_mem_eraseIdx h
theorem Nd.del_fit {nd:Nd} {sz i:Nat} (f:nd.Fit sz) (hi:i< nd.keys.length) (hc:nd.kids.length=nd.keys.length+1):(⟨nd.keys.eraseIdx i,nd.vals.eraseIdx i,nd.kids.eraseIdx (i+1)⟩:Nd).Fit sz:=by
 have hv:=f.vals;have hm:=f.most;have l1:(nd.keys.eraseIdx i).length=nd.keys.length - 1:=List.length_eraseIdx_of_lt hi;have l2:(nd.vals.eraseIdx i).length=nd.vals.length - 1:=List.length_eraseIdx_of_lt (by omega);have l3:(nd.kids.eraseIdx (i+1)).length=nd.kids.length - 1:=List.length_eraseIdx_of_lt (by omega)
 exact⟨by simp only;omega,by simp only;omega,.inr (by simp only;omega),fun k hk=>f.ki k (eraseIdx_mem hk),fun k hk=>f.vi k (eraseIdx_mem hk),fun k hk=>f.ci k (eraseIdx_mem hk)⟩
theorem Rp.put_usedF {x:Rp} {q:Nat} {c0:Pk} (h:x.now[q]? =some c0) (u:c0.used=true):(x.put q .no).now.countP Pk.used+1=x.now.countP Pk.used:=by
 have:=Rp.put_used (c:= .no) h;rw[u] at this;simpa [Pk.used] using this
theorem Rp.put_keep {x:Rp} {q i:Nat} {c c0:Pk} (h:x.now[i]? =some c0) (e:i≠q):(x.put q c).now[i]? =some c0:=by
 unfold Rp.put;simp only;rw[List.getElem?_set_ne (Ne.symm e)];exact h
section
variable {w W:World} {t p root bn ba g qn q1 q2 c:Nat} {F F1 N1' N2 N2' G:Nat→Prop} {x:Rp} {one nd':Nd} {cn c1 c2:Pk} {last:Prop}
theorem merge_all (hbt:BT W t p root F1 (x.put q2 .no)) (ho:x.was≠none) (hqn:x.now[qn]? =some cn) (un:cn.used=true) (hq1:x.now[q1]? =some c1) (u1:c1.used=true) (hq2:x.now[q2]? =some c2) (u2:c2.used=true) (e12:q1≠q2) (e1n:q1≠qn) (e2n:q2≠qn)
  (hA:NdOwn W N2' ba q1 one) (hN:NdOwn W N1' bn qn nd') (fA:one.Fit x.sz) (fN:nd'.Fit x.sz) (d1:∀j,N1' j→¬F1 j) (d2:∀j,N2' j→¬F1 j)
  (hs:Sl W 1 (some ⟨g,0,none⟩) 2 [.pointer (some ⟨ba,0,none⟩),.pointer (some ⟨bn,0,none⟩)]) (hg:¬F1 g) (hc:Chg G w W) (hF1:∀j,F1 j→F j∨w.heap.size≤j) (hGF:∀j,F j→G j) (hN2:∀j,N2' j→N2 j∨w.heap.size≤j) (hz:x.sz≤4096) (hl:¬last) :
  Calls prog 88 #[.pointer (some ⟨t,0,none⟩),.slice (some ⟨g,0,none⟩) 2 c] W fun e w'=>MgOut G w w' t p root ba qn q1 q2 F N2 x one nd' last e:=by
 have hgW:g< W.heap.size:=by obtain⟨b,o,e,hb, -⟩:=hs.2 (by omega);cases e;exact hb
 have n1:=Rp.put_keep (c:= .no) hqn (Ne.symm e2n);have k1:=Rp.put_keep (c:= .no) hq1 e12;have l1:=(List.getElem?_eq_some_iff.1 k1).1;have ln:=(List.getElem?_eq_some_iff.1 n1).1;have uf:=Rp.put_usedF hq2 u2
 have hal:=ball_any t p root g 2 c F1 (x.put q2 .no) [⟨ba,N2',q1,one⟩,⟨bn,N1',qn,nd'⟩] W hbt ho (fun it hit=>by
  simp only[List.mem_cons,List.not_mem_nil,or_false] at hit;rcases hit with rfl | rfl
  ·exact⟨hA.at,fA,⟨_,k1,u1⟩,d2⟩
  ·exact⟨hN.at,fN,⟨_,n1,un⟩,d1⟩) rfl (by omega) hs hg hgW
 refine hal.mono ?_;have hsz:=hc.size;have hAlt:=hA.at.lt;rintro e w' (⟨rfl,F2,h1,h2,h3⟩ | ⟨rfl,z,⟨F2,h1,h2,h3⟩,h4,h5,h6⟩)
 ·refine .inl ⟨rfl,_,F2,N2',h1,Chg.trans hc h2 fun j hj e=>hGF j ((hF1 j e).resolve_right (by omega)),fun j hj=>(h3 j hj).elim (hF1 j) fun e=> .inr (by omega),fun j hj e=>(h3 j e).elim (d2 j hj) fun e=>by have:=hAlt j hj;omega,hN2,(x.put_like _ _).trans (putAll_like _ _),.inr ⟨hl,hA.chg h2 d2,?_,?_,fun i i1 i2 i3=>?_,?_⟩⟩
  ·show((((x.put q2 .no).put q1 (.new (ndL one x.sz))).put qn (.new (ndL nd' x.sz)))).nd q1=_
   rw[Rp.nd_other e1n];exact Rp.nd_new (x:=x.put q2 .no) fA l1 hz
  ·show((((x.put q2 .no).put q1 (.new (ndL one x.sz))).put qn (.new (ndL nd' x.sz)))).nd qn=_
   exact Rp.nd_new (x:=(x.put q2 .no).put q1 (.new (ndL one x.sz))) fN (by rw[Rp.put_len];exact ln) hz
  ·show((((x.put q2 .no).put q1 (.new (ndL one x.sz))).put qn (.new (ndL nd' x.sz)))).nd i=_
   rw[Rp.nd_other i3,Rp.nd_other i1,Rp.nd_other i2]
  ·show((((x.put q2 .no).put q1 (.new (ndL one x.sz))).put qn (.new (ndL nd' x.sz)))).now.countP Pk.used+1=_
   have v1:=Rp.put_usedU (c:= .new (ndL one x.sz)) k1 u1 rfl;have n2:=Rp.put_keep (c:= .new (ndL one x.sz)) n1 (Ne.symm e1n);have v2:=Rp.put_usedU (c:= .new (ndL nd' x.sz)) n2 un rfl;omega
 ·exact .inr ⟨rfl,z,F2,h1,Chg.trans hc h2 fun j hj e=>hGF j ((hF1 j e).resolve_right (by omega)),fun j hj=>(h3 j hj).elim (hF1 j) fun e=> .inr (by omega),(x.put_like _ _).trans h4,by omega,h6⟩
theorem merge_save (hbt:BT W t p root F1 ((x.put q2 .no).put q1 .no)) (ho:x.was≠none) (hqn:x.now[root]? =some cn) (un:cn.used=true) (hq1:x.now[q1]? =some c1) (u1:c1.used=true) (hq2:x.now[q2]? =some c2) (u2:c2.used=true) (e12:q1≠q2) (e1n:q1≠root) (e2n:q2≠root)
  (hA:NdOwn W N2' ba root one) (fA:one.Fit x.sz) (d2:∀j,N2' j→¬F1 j)
  (hc:Chg G w W) (hF1:∀j,F1 j→F j∨w.heap.size≤j) (hGF:∀j,F j→G j) (hN2:∀j,N2' j→N2 j∨w.heap.size≤j) (hz:x.sz≤4096) (hl:last) :
  Calls prog 37 #[.pointer (some ⟨t,0,none⟩),.pointer (some ⟨ba,0,none⟩)] W fun e w'=>MgOut G w w' t p root ba qn q1 q2 F N2 x one nd' last e:=by
 have n1:=Rp.put_keep (c:= .no) hqn (Ne.symm e2n);have n2:=Rp.put_keep (c:= .no) n1 (Ne.symm e1n);have k1:=Rp.put_keep (c:= .no) hq1 e12;have ln:=(List.getElem?_eq_some_iff.1 n2).1;have uf:=Rp.put_usedF hq2 u2;have uf2:=Rp.put_usedF k1 u1;have hbF:¬F1 ba:=d2 _ (by obtain⟨vk,vv,vc,hV⟩:=hA.v;exact hV.nb)
 have hsv:=bsave_any t p root ba root F1 N2' ((x.put q2 .no).put q1 .no) cn one W hbt hA.at fA ho n2 un hbF;refine hsv.mono ?_;have hsz:=hc.size;have hAlt:=hA.at.lt;rintro e w' (⟨rfl,F2,h1,h2,h3⟩ | ⟨hns, -,rfl,hg⟩)
 ·refine .inl ⟨rfl,_,F2,N2',h1,Chg.trans hc h2 fun j hj e=>hGF j ((hF1 j e).resolve_right (by omega)),fun j hj=>(h3 j hj).elim (hF1 j) fun e=> .inr (by omega),fun j hj e=>(h3 j e).elim (d2 j hj) fun e=>by have:=hAlt j hj;omega,hN2,((x.put_like _ _).trans (Rp.put_like _ _ _)).trans (Rp.put_like _ _ _),.inl ⟨hl,hA.chg h2 d2,?_,fun i i1 i2 i3=>?_,?_⟩⟩
  ·exact Rp.nd_new (x:=(x.put q2 .no).put q1 .no) fA ln hz
  ·rw[Rp.nd_other i3,Rp.nd_other i1,Rp.nd_other i2]
  ·have v2:=Rp.put_usedU (c:= .new (ndL one ((x.put q2 .no).put q1 .no).sz)) n2 un rfl
   omega
 ·exact .inr ⟨rfl,_,F1,hbt.grew hg,Chg.trans hc hg.chg fun j hj e=>hGF j ((hF1 j e).resolve_right (by omega)),hF1,(x.put_like _ _).trans (Rp.put_like _ _ _),by omega,fun e=>hns e.1⟩
end
theorem NdV.page {W W2:World} {N:Nat→Prop} {b q q':Nat} {vk vv vc:Value} {lk lv lc:List Value} (h:NdV W N b q vk vv vc lk lv lc) (hW:W.setCell ⟨b,0,none⟩ (.int .i64 q')=W2):NdV W2 N b q' vk vv vc lk lv lc∧Chg (fun j=>j=b) W W2:=by
 obtain⟨e1,e2,e3⟩:=h.ne;have hc:Chg (fun j=>j=b) W W2:=hW▸(Chg.refl (fun j=>j=b) W).setCell (p:=⟨b,0,none⟩) (fun _=>rfl) _;have hz:=hc.size
 refine⟨⟨?_,own_chg h.rk hc fun g hg e=>e1 (e▸hg),own_chg h.rv hc fun g hg e=>e2 (e▸hg),own_chg h.rc hc fun g hg e=>e3 (e▸hg),h.nb,h.nk,h.nv,h.nc,fun j hj=>Nat.lt_of_lt_of_le (h.lt j hj) hz,h.kv,h.kc,h.vc_⟩,hc⟩;subst hW;have:=h.blk.put 0 (.int .i64 q');simpa using this
def NdRd (W:World) (N:Nat→Prop) (b q:Nat) (nd:Nd) (Ak:Option Addr) (ck:Nat) (Av:Option Addr) (cv:Nat) (Ac:Option Addr) (cc:Nat):Prop:=
 Blk W b 73 #[.int .i64 q,.slice Ak nd.keys.length ck,.slice Av nd.vals.length cv,.slice Ac nd.kids.length cc]∧
  Sl W 1 Ak nd.keys.length (iv nd.keys)∧Sl W 1 Av nd.vals.length (iv nd.vals)∧Sl W 1 Ac nd.kids.length (nv nd.kids)∧
  N b∧(∀a,Ak=some a→N a.block)∧(∀a,Av=some a→N a.block)∧(∀a,Ac=some a→N a.block)
theorem NdAt.rd {W:World} {N:Nat→Prop} {b q:Nat} {nd:Nd} (h:NdAt W N b q nd):∃Ak ck Av cv Ac cc,NdRd W N b q nd Ak ck Av cv Ac cc:=by
 obtain⟨Ak,ck,Av,cv,Ac,cc,h1,h2,h3,h4,h5,h6,h7,h8,h9⟩:=h;exact⟨Ak,ck,Av,cv,Ac,cc,h1,h2,h3,h4,h5,h6,h7,h8⟩
theorem NdRd.chg {W W':World} {N G:Nat→Prop} {b q:Nat} {nd:Nd} {Ak Av Ac:Option Addr} {ck cv cc:Nat} (h:NdRd W N b q nd Ak ck Av cv Ac cc) (hc:Chg G W W') (hG:∀j,N j→¬G j):NdRd W' N b q nd Ak ck Av cv Ac cc:=by
 obtain⟨h1,h2,h3,h4,h5,h6,h7,h8⟩:=h;exact⟨h1.chg hc (hG _ h5),h2.chg hc fun a ha=>hG _ (h6 a ha),h3.chg hc fun a ha=>hG _ (h7 a ha),h4.chg hc fun a ha=>hG _ (h8 a ha),h5,h6,h7,h8⟩
end
end Go.Proofs.YtpkkcicaeldodaaGreatDoor
