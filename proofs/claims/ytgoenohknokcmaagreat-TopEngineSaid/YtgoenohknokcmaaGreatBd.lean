/- strings.Builder: its methods walked, and their contracts. -/
import Derived.Test.YtgoenohknokcmaaGreatAd
import Derived.Test.YtgoenohknokcmaaGreatProg
import Derived.Lib.Strings
import Derived.Lib.Slices
import Derived.Lib.Walk
import Derived.Lib.MakeNoZero
import Derived.Shelf.RegionOpenPlain
import Derived.Laws.Externs
import Derived.Laws.IdiomCopy
import Derived.Laws.BitsLemmas
set_option linter.unusedVariables false
set_option linter.unusedSimpArgs false
set_option maxRecDepth 100000
set_option maxHeartbeats 2000000
namespace Go.AM
open Go.Proofs Go.RowKit Go.Lib
theorem VG:Tryz.prog.underlying 123=some (.struct #[{ name:= "addr",type:=120,offset:=0,embedded:=false,tag:= "",pkgPath:= "strings",byteOffset:=0 },{ name:= "buf",type:=121,offset:=1,embedded:=false,tag:= "",pkgPath:= "strings",byteOffset:=8 }]):=by kernel_rfl
theorem Qw:Tryz.prog.underlying 120=some (.pointer 123):=by kernel_rfl
theorem V0:Tryz.prog.underlying 5=some (.int .u8):=by kernel_rfl
theorem WO:Tryz.prog.underlying 121=some (.slice 5):=by kernel_rfl
theorem WT:Tryz.prog.underlying 9=some (.string):=by kernel_rfl
theorem P7:Tryz.prog.underlying 4=some (.bool):=by kernel_rfl
theorem Qm:Tryz.prog.underlying 276=some (.unsafePointer):=by kernel_rfl
theorem Pu:Tryz.prog.underlying 206=some (.pointer 5):=by kernel_rfl
theorem Rd:Tryz.prog.underlying 3=some (.int .i64):=by kernel_rfl
theorem OZ (b:Nat) (w:World) (h0:w.cell? ⟨b,0,none⟩=some (.pointer (some ⟨b,0,none⟩))):
  Calls Tryz.prog 127 #[.pointer (some ⟨b,0,none⟩)] w fun e w'=>e= .returned (.tuple #[])/\w'=w:=by
 obtain ⟨j,hj,_⟩:=Option.map_eq_some_iff.1 (show (Tryz.prog.info? 123).map (·.size)=some 2 by kernel_rfl)
 have hf:Tryz.prog.funcs[127]? =some Tryz.f127:=by kernel_rfl
 have hn:Tryz.f127.ntmps=20:=by kernel_rfl
 have mixed:Tryz.prog.follows .mixedOrders=true:=by kernel_rfl
 have tB:=VG;have uB:=run_underlying tB
 have tPB:=Qw;have uPB:=run_underlying tPB
 have tE:=V0;have uE:=run_underlying tE
 have tR:=WO;have uR:=run_underlying tR
 have tS:=WT;have uS:=run_underlying tS
 have tBO:=P7;have uBO:=run_underlying tBO
 have tUP:=Qm;have uUP:=run_underlying tUP
 have tPE:=Pu;have uPE:=run_underlying tPE
 have tIN:=Rd;have uIN:=run_underlying tIN
 go_enter hf,hn
 go_wp2
 rw [Lib.run_neq_ptr_same w _ tPB hj]
 go_wp2
 go_end0
 exact ⟨rfl,rfl⟩
theorem Nw (b:Nat) (w:World) (h0:w.cell? ⟨b,0,none⟩=some (.pointer none)) (hsh:w.shape? b=some (123,2)) (hfz:w.frozen? ⟨b,0,none⟩=false):
  Calls Tryz.prog 127 #[.pointer (some ⟨b,0,none⟩)] w fun e w'=>e= .returned (.tuple #[])/\w'=w.setCell ⟨b,0,none⟩ (.pointer (some ⟨b,0,none⟩)):=by
 obtain ⟨j,hj,hjs⟩:=Option.map_eq_some_iff.1 (show (Tryz.prog.info? 123).map (·.size)=some 2 by kernel_rfl)
 have hlies:liesAt Tryz.prog Tryz.prog.depth 123 (2 / Tryz.prog.cellsOf 123) 0 123 1=true:=by kernel_rfl
 have hf:Tryz.prog.funcs[127]? =some Tryz.f127:=by kernel_rfl
 have hn:Tryz.f127.ntmps=20:=by kernel_rfl
 have mixed:Tryz.prog.follows .mixedOrders=true:=by kernel_rfl
 have tB:=VG;have uB:=run_underlying tB
 have tPB:=Qw;have uPB:=run_underlying tPB
 have tE:=V0;have uE:=run_underlying tE
 have tR:=WO;have uR:=run_underlying tR
 have tS:=WT;have uS:=run_underlying tS
 have tBO:=P7;have uBO:=run_underlying tBO
 have tUP:=Qm;have uUP:=run_underlying tUP
 have tPE:=Pu;have uPE:=run_underlying tPE
 have tIN:=Rd;have uIN:=run_underlying tIN
 go_enter hf,hn
 go_wp2
 rw [Lib.run_to_unsafe w ⟨b,0,none⟩ tPB tUP hj (by rw [hjs];decide) hsh (Nat.zero_lt_succ 1)]
 simp only [Result.andThen]
 rw [Oper.upon_value]
 go_wp2
 rw [run_callFunc_extern (fn:=Tryz.f192) (by kernel_rfl) (by kernel_rfl) (by kernel_rfl) (by kernel_rfl) (e:=Extern.AbiNoEscape.same) (by kernel_rfl)]
 rw [Lib.run_noEscape]
 simp only [Result.andThen]
 rw [Oper.upon_value]
 go_wp2
 rw [Lib.run_from_unsafe w ⟨b,0,none⟩ tUP tPB hj hsh hlies]
 simp only [Result.andThen]
 rw [Oper.upon_value]
 go_wp2
 go_end0
 exact ⟨rfl,rfl⟩
theorem Uc {w:World} {b:Nat} {p u:Value} {n:Nat} {bs:List Value} (h:BdAt w 123 5 b p u n bs):
  Calls Tryz.prog 127 #[.pointer (some ⟨b,0,none⟩)] w fun E w'=>E= .returned (.tuple #[])/\BdAt w' 123 5 b (.pointer (some ⟨b,0,none⟩)) u n bs/\Grew w w' b u u:=by
 have hlt:b < w.heap.size:=(Array.getElem?_eq_some_iff.1 h.heap).1
 rcases h.addr with rfl | rfl
 ·refine (Nw b w (by rw [Lib.cell_of_heap h.heap];rfl) (by simp [World.shape?,h.heap]) (Lib.frozen_of_heap h.heap 0)).mono ?_
  rintro E w' ⟨rfl,rfl⟩
  have hk: ∀k,k≠b->(w.setCell ⟨b,0,none⟩ (.pointer (some ⟨b,0,none⟩))).heap[k]? =w.heap[k]? :=fun k hk=>Below.heap_setCell _ _ _ _ (fun e=>hk (by simp [e]))
  have hb':(w.setCell ⟨b,0,none⟩ (.pointer (some ⟨b,0,none⟩))).heap[b]? =some (.cells #[.pointer (some ⟨b,0,none⟩),u] 123 (0,0)):=by simp [World.setCell,Array.getElem?_modify,h.heap]
  refine ⟨rfl,⟨hb',.inr rfl,h.own.kept (row:=some b) ⟨rfl,rfl,rfl,by simp [World.setCell],fun k _ hk'=>hk k (fun e=>hk' (by rw [e]))⟩ (.inr h.ne),h.ne⟩,⟨rfl,rfl,rfl,by simp [World.setCell],fun k c T z hc=> ?_,fun k _ hkb _=>hk k hkb,fun k hk=> .inl hk⟩⟩
  by_cases e:k=b
  ·subst e
   rw [h.heap] at hc;cases hc
   exact ⟨_,_,hb',rfl⟩
  ·exact ⟨c,z,(hk k e).trans hc,rfl⟩
 ·refine (OZ b w (by rw [Lib.cell_of_heap h.heap];rfl)).mono ?_
  rintro E w' ⟨rfl,rfl⟩
  exact ⟨rfl,h,⟨rfl,rfl,rfl,Nat.le_refl _,.refl _,fun _ _ _ _=>rfl,fun k hk=> .inl hk⟩⟩
theorem WU {w w1 w2:World} {b:Nat} {u v':Value} {n m:Nat} {bs bs':List Value} (h1:BdAt w1 123 5 b (.pointer (some ⟨b,0,none⟩)) u n bs) (g1:Grew w w1 b u u) (hown:w2.ownsRow 0 5 1 v' m bs') (hg:w1.grownBy w2 u.ownBlock) (hs:Sizes w1 w2) (hnew: ∀k,v'.ownBlock=some k->u.ownBlock=some k\/w1.heap.size<=k):
  w2.heap[b]? =some (.cells #[.pointer (some ⟨b,0,none⟩),u] 123 (0,0))/\BdAt (w2.setCell ⟨b,1,none⟩ v') 123 5 b (.pointer (some ⟨b,0,none⟩)) v' m bs'/\Grew w (w2.setCell ⟨b,1,none⟩ v') b u v':=by
 have hlt:b < w1.heap.size:=(Array.getElem?_eq_some_iff.1 h1.heap).1
 have hb2:w2.heap[b]? =some (.cells #[.pointer (some ⟨b,0,none⟩),u] 123 (0,0)):=(hg.block b hlt (fun e=>h1.ne e.symm)).trans h1.heap
 have hne:v'.ownBlock≠some b:=fun e=>by
  rcases hnew b e with g | g
  ·exact h1.ne g
  ·omega
 have hk: ∀k,k≠b->(w2.setCell ⟨b,1,none⟩ v').heap[k]? =w2.heap[k]? :=fun k hk=>Below.heap_setCell _ _ _ _ (fun e=>hk (by simp [e]))
 have hb3:(w2.setCell ⟨b,1,none⟩ v').heap[b]? =some (.cells #[.pointer (some ⟨b,0,none⟩),v'] 123 (0,0)):=by simp [World.setCell,Array.getElem?_modify,hb2]
 have hsz:(w2.setCell ⟨b,1,none⟩ v').heap.size=w2.heap.size:=by simp [World.setCell]
 refine ⟨hb2,⟨hb3,.inr rfl,hown.kept (row:=some b) ⟨rfl,rfl,rfl,by rw [hsz];exact Nat.le_refl _,fun k _ hk'=>hk k (fun e=>hk' (by rw [e]))⟩ (.inr hne),hne⟩,⟨hg.os.trans g1.os,hg.tape.trans g1.tape,hg.output.trans g1.output,by rw [hsz];exact Nat.le_trans g1.size hg.size,(g1.sizes.trans hs).trans fun k c T z hc=> ?_,fun k hk1 hkb hku=>(hk k hkb).trans ((hg.block k (Nat.lt_of_lt_of_le hk1 g1.size) (fun e=>hku e.symm)).trans (g1.other k hk1 hkb hku)),fun k hk=> ?_⟩⟩
 ·by_cases e:k=b
  ·subst e
   rw [hb2] at hc;cases hc
   exact ⟨_,_,hb3,rfl⟩
  ·exact ⟨c,z,(hk k e).trans hc,rfl⟩
 ·rcases hnew k hk with g | g
  ·exact .inl g
  ·exact .inr (Nat.le_trans g1.size g)
theorem Lc: ∀args w,(callFunc 127 args).run Tryz.prog w= .ok (.enter 127 args) w:=Go.AM.enters_of (g:=127) (f:=Tryz.f127) (by kernel_rfl) (by kernel_rfl) (by kernel_rfl)
theorem Q5: ∃i,Tryz.prog.info? 5=some i/\i.zero=some (.int .u8 0)/\i.size=1/\i.bytes=1:=info_parts (show (Tryz.prog.info? 5).map (fun i=>(i.zero,i.size,i.bytes))=some (some (.int .u8 0),1,1) by kernel_rfl)
theorem V6 (w:World) (b:Nat) (p u:Value) (n:Nat) (bs:List Value) (s:ByteArray) (h:BdAt w 123 5 b p u n bs) (hlen:n+s.size<=140737488355328):
  Calls Tryz.prog 59 #[.pointer (some ⟨b,0,none⟩),.string s] w fun E w'=>E= .returned (.tuple #[.int .i64 s.size,.nilIface])/\ ∃p' u',BdAt w' 123 5 b p' u' (n+s.size) (bs++strCells s)/\Grew w w' b u u':=by
 obtain ⟨i0,hi,hz0,hz1,hz2⟩:=Q5
 have hf:Tryz.prog.funcs[59]? =some Tryz.f59:=by kernel_rfl
 have hn:Tryz.f59.ntmps=19:=by kernel_rfl
 have mixed:Tryz.prog.follows .mixedOrders=true:=by kernel_rfl
 have tB:=VG;have uB:=run_underlying tB
 have tPB:=Qw;have uPB:=run_underlying tPB
 have tE:=V0;have uE:=run_underlying tE
 have tR:=WO;have uR:=run_underlying tR
 have tS:=WT;have uS:=run_underlying tS
 have tBO:=P7;have uBO:=run_underlying tBO
 have tUP:=Qm;have uUP:=run_underlying tUP
 have tPE:=Pu;have uPE:=run_underlying tPE
 have tIN:=Rd;have uIN:=run_underlying tIN
 have e240: ∀args w,(callFunc 127 args).run Tryz.prog w= .ok (.enter 127 args) w:=Lc
 go_enter hf,hn
 go_wp2_with (go_at_fn 127;refine (Uc h).mono ?_)
 rintro E w1 ⟨rfl,h1,g1⟩
 have c0:w1.cell? ⟨b,0,none⟩=some (.pointer (some ⟨b,0,none⟩)):=by rw [Lib.cell_of_heap h1.heap];rfl
 have c1:w1.cell? ⟨b,1,none⟩=some u:=by rw [Lib.cell_of_heap h1.heap];rfl
 go_wp2_with (at_builtin;refine HA _ rfl _ _ 121 9 rfl 5 i0 tR tS hi hz0 hz1 hz2 _ _ _ rfl h1.own s rfl ?c3 hlen ?_)
 case c3=>unfold maxLen;omega
 intro v' w2 hown' hgrow hsizes hnew
 obtain ⟨hb2,k1,k2⟩:=WU h1 g1 hown' hgrow hsizes hnew
 have d0:w2.cell? ⟨b,0,none⟩=some (.pointer (some ⟨b,0,none⟩)):=by rw [Lib.cell_of_heap hb2];rfl
 have d1:w2.cell? ⟨b,1,none⟩=some u:=by rw [Lib.cell_of_heap hb2];rfl
 have f1:w2.frozen? ⟨b,1,none⟩=false:=Lib.frozen_of_heap hb2 1
 obtain ⟨ao,n',cap,rfl⟩: ∃ao n' cap,v'= .slice ao n' cap:=by
  rcases hown'.2 with ⟨hv,_⟩ | ⟨g,cap,cur,hv,_⟩
  ·exact ⟨_,_,_,hv⟩
  ·exact ⟨_,_,_,hv⟩
 go_wp2
 go_ret2
 exact ⟨rfl,_,_,k1,k2⟩
theorem X3 (w:World) (b:Nat) (p u:Value) (n:Nat) (bs:List Value) (c:Int) (h:BdAt w 123 5 b p u n bs) (hlen:n+1<=140737488355328):
  Calls Tryz.prog 122 #[.pointer (some ⟨b,0,none⟩),.int .u8 c] w fun E w'=>E= .returned .nilIface/\ ∃p' u',BdAt w' 123 5 b p' u' (n+1) (bs++[.int .u8 c])/\Grew w w' b u u':=by
 obtain ⟨i0,hi,hz0,hz1,hz2⟩:=Q5
 have hf:Tryz.prog.funcs[122]? =some Tryz.f122:=by kernel_rfl
 have hn:Tryz.f122.ntmps=17:=by kernel_rfl
 have mixed:Tryz.prog.follows .mixedOrders=true:=by kernel_rfl
 have tB:=VG;have uB:=run_underlying tB
 have tPB:=Qw;have uPB:=run_underlying tPB
 have tE:=V0;have uE:=run_underlying tE
 have tR:=WO;have uR:=run_underlying tR
 have tS:=WT;have uS:=run_underlying tS
 have tBO:=P7;have uBO:=run_underlying tBO
 have tUP:=Qm;have uUP:=run_underlying tUP
 have tPE:=Pu;have uPE:=run_underlying tPE
 have tIN:=Rd;have uIN:=run_underlying tIN
 have e240: ∀args w,(callFunc 127 args).run Tryz.prog w= .ok (.enter 127 args) w:=Lc
 go_enter hf,hn
 go_wp2_with (go_at_fn 127;refine (Uc h).mono ?_)
 rintro E w1 ⟨rfl,h1,g1⟩
 have c0:w1.cell? ⟨b,0,none⟩=some (.pointer (some ⟨b,0,none⟩)):=by rw [Lib.cell_of_heap h1.heap];rfl
 have c1:w1.cell? ⟨b,1,none⟩=some u:=by rw [Lib.cell_of_heap h1.heap];rfl
 have hw1:b < w1.heap.size:=(Array.getElem?_eq_some_iff.1 h1.heap).1
 go_wp2_with (at_builtin;refine GH _ rfl _ _ 121 rfl 5 i0 tR hi hz0 hz1 hz2 _ _ _ rfl (h1.own.alloc _) ⟨w1.heap.size,0,none⟩ 1 1 [.int .u8 c] rfl rfl ?c1 ?c2 ?c3 hlen ?_)
 case c1=>
  intro j u hj
  match j,hj with
  | 0,hj=>simp at hj;subst hj;simp [Addr.add]
 case c2=>intro u hu;simp at hu;subst hu;rfl
 case c3=>unfold maxLen;omega
 intro v' w2 hown' hgrow hsizes hnew
 obtain ⟨hb2,k1,k2⟩:=WU (BdAt.alloc h1 _) (g1.alloc _) hown' hgrow hsizes (fun k hk=>by have:=hnew k hk;simpa using this)
 have d0:w2.cell? ⟨b,0,none⟩=some (.pointer (some ⟨b,0,none⟩)):=by rw [Lib.cell_of_heap hb2];rfl
 have d1:w2.cell? ⟨b,1,none⟩=some u:=by rw [Lib.cell_of_heap hb2];rfl
 have f1:w2.frozen? ⟨b,1,none⟩=false:=Lib.frozen_of_heap hb2 1
 obtain ⟨ao,n',cap,rfl⟩: ∃ao n' cap,v'= .slice ao n' cap:=by
  rcases hown'.2 with ⟨hv,_⟩ | ⟨g,cap,cur,hv,_⟩
  ·exact ⟨_,_,_,hv⟩
  ·exact ⟨_,_,_,hv⟩
 go_wp2
 go_ret
 exact ⟨rfl,_,_,k1,k2⟩
theorem BC (w:World) (a:Addr) (n k:Nat) (h:k≠a.block):(w.freeze a n).heap[k]? =w.heap[k]? :=by
 unfold World.freeze
 split
 ·rfl
 ·simp [Array.getElem?_modify,Ne.symm h]
theorem Mw (w:World) (a:Addr) (n:Nat):Sizes w (w.freeze a n):=fun b c T z hb=>by
 by_cases e:b=a.block
 ·subst e
  unfold World.freeze
  split
  ·exact ⟨c,z,hb,rfl⟩
  ·obtain ⟨lo,hi⟩:=z
   exact ⟨c,_,by simp [Array.getElem?_modify,hb];rfl,rfl⟩
 ·exact ⟨c,z,(BC w a n b e).trans hb,rfl⟩
theorem qH (w:World) (a:Addr) (n:Nat):(w.freeze a n).heap.size=w.heap.size/\(w.freeze a n).os=w.os/\(w.freeze a n).tape=w.tape/\(w.freeze a n).output=w.output:=by
 unfold World.freeze
 split
 ·exact ⟨rfl,rfl,rfl,rfl⟩
 ·exact ⟨by simp,rfl,rfl,rfl⟩
theorem LX (w:World) (b:Nat) (p u:Value) (l:List UInt8) (h:BdAt w 123 5 b p u l.length (byteCells l)):
  Calls Tryz.prog 62 #[.pointer (some ⟨b,0,none⟩)] w fun E w'=>E= .returned (.string ⟨l.toArray⟩)/\
   w'.os=w.os/\w'.tape=w.tape/\w'.output=w.output/\w.heap.size<=w'.heap.size/\Sizes w w'/\ ∀k,k < w.heap.size->u.ownBlock≠some k->w'.heap[k]? =w.heap[k]? :=by
 have hf:Tryz.prog.funcs[62]? =some Tryz.f62:=by kernel_rfl
 have hn:Tryz.f62.ntmps=14:=by kernel_rfl
 have hcb:Tryz.prog.cellsOf 5=1:=by kernel_rfl
 have hlt:b < w.heap.size:=(Array.getElem?_eq_some_iff.1 h.heap).1
 have mixed:Tryz.prog.follows .mixedOrders=true:=by kernel_rfl
 have tB:=VG;have uB:=run_underlying tB
 have tPB:=Qw;have uPB:=run_underlying tPB
 have tE:=V0;have uE:=run_underlying tE
 have tR:=WO;have uR:=run_underlying tR
 have tS:=WT;have uS:=run_underlying tS
 have tBO:=P7;have uBO:=run_underlying tBO
 have tUP:=Qm;have uUP:=run_underlying tUP
 have tPE:=Pu;have uPE:=run_underlying tPE
 have tIN:=Rd;have uIN:=run_underlying tIN
 have hbk:=h.heap
 have hUS0: ∀(W:World) (q:Option Addr),(Builtin.unsafeString_ #[206,3] 9 #[.pointer q,.int .i64 0]).run Tryz.prog W= .ok (.string .empty) W:=fun W q=>Lib.run_unsafeString_none W _ _ _ q
 rcases h.own.2 with ⟨rfl,hn0⟩ | ⟨g,cap,cur,rfl,_,hg,hnc,hcm,hcs,htake⟩
 ·have hl:l=[]:=List.length_eq_zero_iff.1 hn0
  subst hl
  have c1:w.drew.cell? ⟨b,1,none⟩=some (.slice none 0 0):=by
   have:w.drew.heap[b]? =some (.cells #[p,.slice none 0 0] 123 (0,0)):=hbk
   rw [Lib.cell_of_heap this];rfl
  have hUS:=hUS0
  have hSD:(Builtin.unsafeSliceData_ #[121] 206 #[.slice none 0 0]).run Tryz.prog w.drew= .ok (.pointer none) w.drew:=rfl
  go_enter hf,hn
  go_wp2
  go_region_o
  all_goals (go_wp2;go_ret;exact ⟨rfl,rfl,rfl,rfl,Nat.le_refl _,.refl _,fun _ _ _=>rfl⟩)
 ·by_cases hl0:l.length=0
  ·have hl:l=[]:=List.length_eq_zero_iff.1 hl0
   subst hl
   have hUS:=hUS0
   by_cases hc0:cap=0
   ·subst hc0
    have c1:w.drew.cell? ⟨b,1,none⟩=some (.slice (some ⟨g,0,none⟩) 0 0):=by
     have:w.drew.heap[b]? =some (.cells #[p,.slice (some ⟨g,0,none⟩) 0 0] 123 (0,0)):=hbk
     rw [Lib.cell_of_heap this];rfl
    have hSD:(Builtin.unsafeSliceData_ #[121] 206 #[.slice (some ⟨g,0,none⟩) 0 0]).run Tryz.prog w.drew= .ok (.pointer (some ⟨w.drew.heap.size,0,none⟩)) (w.drew.alloc (.view ⟨g,0,none⟩ 5)):=
     Lib.run_unsafeSliceData_zero w.drew _ _ 5 tPE ⟨g,0,none⟩ 0 (5,cur.size) (by have hg':w.drew.heap[g]? =some (.cells cur 5 (0,0)):=hg;simp [World.shape?,hg'])
    have c2:(w.drew.alloc (.view ⟨g,0,none⟩ 5)).cell? ⟨b,1,none⟩=some (.slice (some ⟨g,0,none⟩) 0 0):=by
     have:(w.drew.alloc (.view ⟨g,0,none⟩ 5)).heap[b]? =_:=(Lib.alloc_old w.drew _ b hlt).trans hbk
     rw [Lib.cell_of_heap this];rfl
    have c3:(w.alloc (.view ⟨g,0,none⟩ 5)).drew.cell? ⟨b,1,none⟩=some (.slice (some ⟨g,0,none⟩) 0 0):=c2
    have c0:w.cell? ⟨b,1,none⟩=some (.slice (some ⟨g,0,none⟩) 0 0):=c1
    go_enter hf,hn
    go_wp2
    go_region_o
    all_goals (go_wp2;go_ret;exact ⟨rfl,rfl,rfl,rfl,by show w.heap.size<=(w.heap.push _).size;simp,wU w _,fun k hk _=>Lib.alloc_old w.drew _ k hk⟩)
   ·have c1:w.drew.cell? ⟨b,1,none⟩=some (.slice (some ⟨g,0,none⟩) 0 cap):=by
     have:w.drew.heap[b]? =some (.cells #[p,.slice (some ⟨g,0,none⟩) 0 cap] 123 (0,0)):=hbk
     rw [Lib.cell_of_heap this];rfl
    have hSD:(Builtin.unsafeSliceData_ #[121] 206 #[.slice (some ⟨g,0,none⟩) 0 cap]).run Tryz.prog w.drew= .ok (.pointer (some ⟨g,0,none⟩)) w.drew:=Lib.run_unsafeSliceData_row _ _ _ _ _ _ hc0
    clear hc0
    go_enter hf,hn
    go_wp2
    go_region_o
    all_goals (go_wp2;go_ret;exact ⟨rfl,rfl,rfl,rfl,Nat.le_refl _,.refl _,fun _ _ _=>rfl⟩)
  ·have c1:w.drew.cell? ⟨b,1,none⟩=some (.slice (some ⟨g,0,none⟩) l.length cap):=by
    have:w.drew.heap[b]? =some (.cells #[p,.slice (some ⟨g,0,none⟩) l.length cap] 123 (0,0)):=hbk
    rw [Lib.cell_of_heap this];rfl
   have h0:l≠[]:=fun e=>hl0 (by rw [e];rfl)
   have hSD:(Builtin.unsafeSliceData_ #[121] 206 #[.slice (some ⟨g,0,none⟩) l.length cap]).run Tryz.prog w.drew= .ok (.pointer (some ⟨g,0,none⟩)) w.drew:=Lib.run_unsafeSliceData_row _ _ _ _ _ _ (by omega)
   have hUS:(Builtin.unsafeString_ #[206,3] 9 #[.pointer (some ⟨g,0,none⟩),.int .i64 l.length]).run Tryz.prog w.drew= .ok (.string ⟨l.toArray⟩) (w.drew.freeze ⟨g,0,none⟩ l.length):=by
    refine Lib.run_unsafeString_row w.drew 206 3 9 5 tPE hcb g cur.size (by have hg':w.drew.heap[g]? =some (.cells cur 5 (0,0)):=hg;simp [World.shape?,hg']) l h0 (by omega) (by unfold maxLen at hcm;omega) ?_
    intro j x hx
    have:=h.own.cells (g:=g) rfl j (.int .u8 x.toNat) (by simp [Lib.byteCells,hx])
    exact this
   go_enter hf,hn
   go_wp2
   go_region_o
   all_goals (go_wp2;go_ret;exact ⟨rfl,(qH w.drew _ _).2.1,(qH w.drew _ _).2.2.1,(qH w.drew _ _).2.2.2,Nat.le_of_eq (qH w.drew _ _).1.symm,Mw w.drew _ _,fun k hk hku=>BC w.drew _ _ k (fun e=>hku (by simp [Value.ownBlock,e]))⟩)
theorem mF:ah Tryz.prog 59 ⟨.obj (qh 123 5),false,[1,1],0,QS⟩:=by
 refine VY (fun rest=>by simp [QS]) fun w ok ls vs args r es hargs hr hlen hv=> ?_
 match vs,hlen with
 | [x0,x1],_=>
   cases hv
   unfold QS at hr
   split at hr
   ·rename_i x es' s heq
    simp only [List.cons.injEq,IV.lst.injEq,and_true] at heq
    obtain ⟨⟨rfl,rfl⟩,rfl⟩:=heq
    split at hr
    ·rename_i hle
     cases hr
     obtain ⟨v,rfl⟩: ∃v,args=[v]:=by
      match args,hargs.1 with
      | [v],_=>exact ⟨v,rfl⟩
     have hv:v= .string s:=by
      rcases hargs.2 0 [.str s] v rfl rfl with ⟨y,h3,h4⟩ | ⟨h3,_⟩
      ·cases h3;cases h4;rfl
      ·simp at h3
     subst hv
     refine ⟨Cl s,strCells s,.tuple #[.int .i64 s.size,.nilIface],rfl,by simp [Cl,strCells],fun w' ok'=>ZD w' ok' s,fun w' ok'=>⟨_,rfl,.inl ⟨rfl,.int _ _⟩,.inl ⟨rfl,.nili⟩,trivial⟩,fun b p u bs hb=> ?_⟩
     rw [strCells_length]
     exact V6 w b p u _ bs s hb hle
    ·cases hr
   ·cases hr
theorem nz:ah Tryz.prog 122 ⟨.obj (qh 123 5),false,[1],0,NF⟩:=by
 refine VY (fun rest=>by simp [NF]) fun w ok ls vs args r es hargs hr hlen hv=> ?_
 match vs,hlen with
 | [x0,x1],_=>
   cases hv
   unfold NF at hr
   split at hr
   ·rename_i x es' s heq
    simp only [List.cons.injEq,IV.lst.injEq,and_true] at heq
    obtain ⟨⟨rfl,rfl⟩,rfl⟩:=heq
    split at hr
    ·rename_i hle
     cases hr
     obtain ⟨v,rfl⟩: ∃v,args=[v]:=by
      match args,hargs.1 with
      | [v],_=>exact ⟨v,rfl⟩
     have hv:v= .int .u8 s:=by
      rcases hargs.2 0 [.int .u8 s] v rfl rfl with ⟨y,h3,h4⟩ | ⟨h3,_⟩
      ·cases h3;cases h4;rfl
      ·simp at h3
     subst hv
     exact ⟨_,[.int .u8 s],.nilIface,rfl,rfl,fun w' ok'=>Zl w' ok' s,fun w' ok'=> .inl ⟨rfl,.nili⟩,fun b p u bs hb=>X3 w b p u _ bs s hb hle⟩
    ·cases hr
   ·cases hr
theorem pD:ah Tryz.prog 62 ⟨.inl (strJ 123 5),false,[],0,fun _=>none⟩:=Xw LX
end Go.AM
