/- strings.Builder: its methods walked, and their contracts. -/
import Derived.Test.YtgoenohknokcmaaGreatAd
import Derived.Test.YtgoenohknokcmaaGreatProg
import Derived.Lib.Strings
import Derived.Lib.Slices
import Derived.Lib.Walk
import Derived.Lib.MakeNoZero
import Derived.Shelf.RegionOpenPlain
open Go.Proofs.Tryz renaming prog->ab,f127->a7
open Go.Lib renaming cell_of_heap->ad,run_unsafeSliceData_row->a2,frozen_of_heap->a5,alloc_old->bd
open Array renaming getElem?_eq_some_iff->al,getElem?_modify->aB
open Go.Builtin renaming unsafeSliceData_->ao,unsafeString_->a6
open Go.World renaming setCell->a1,shape?->a8,freeze->bb
set_option linter.unusedVariables false
set_option linter.unusedSimpArgs false
set_option maxRecDepth 100000
set_option maxHeartbeats 2000000
namespace Go.AM
open Go.Proofs Go.RowKit Go.Lib
theorem acp:ab.underlying 123=some (.struct #[{ name:= "addr",type:=120,offset:=0,embedded:=false,tag:= "",pkgPath:= "strings",byteOffset:=0 },{ name:= "buf",type:=121,offset:=1,embedded:=false,tag:= "",pkgPath:= "strings",byteOffset:=8 }]):=by kernel_rfl
theorem Vv:ab.underlying 120=some (.pointer 123):=by kernel_rfl
theorem abD:ab.underlying 5=some (.int .u8):=by kernel_rfl
theorem acm:ab.underlying 121=some (.slice 5):=by kernel_rfl
theorem aaq:ab.underlying 9=some (.string):=by kernel_rfl
theorem VA:ab.underlying 4=some (.bool):=by kernel_rfl
theorem Vn:ab.underlying 276=some (.unsafePointer):=by kernel_rfl
theorem TY:ab.underlying 206=some (.pointer 5):=by kernel_rfl
theorem U0:ab.underlying 3=some (.int .i64):=by kernel_rfl
theorem U1 (b:Nat) (w:World) (h0:w.cell? ⟨b,0,none⟩=some (.pointer (some ⟨b,0,none⟩))):
  Calls ab 127 #[.pointer (some ⟨b,0,none⟩)] w λe w'=>e= .returned (.tuple #[])/\w'=w:=by
 obtain ⟨j,hj,_⟩:=Option.map_eq_some_iff.1 (show (ab.info? 123).map (·.size)=some 2 by kernel_rfl)
 have hf:ab.funcs[127]? =some a7:=by kernel_rfl
 have hn:a7.ntmps=20:=by kernel_rfl
 have mixed:ab.follows .mixedOrders=true:=by kernel_rfl
 have h:=acp;have r:=run_underlying h
 have a:=Vv;have o:=run_underlying a
 have i:=abD;have s:=run_underlying i
 have k:=acm;have t:=run_underlying k
 have l:=aaq;have u:=run_underlying l
 have c:=VA;have m:=run_underlying c
 have g:=Vn;have q:=run_underlying g
 have f:=TY;have p:=run_underlying f
 have d:=U0;have n:=run_underlying d
 go_enter hf,hn
 go_wp2
 rw [Lib.run_neq_ptr_same w _ a hj]
 go_wp2
 go_end0
 exact ⟨rfl,rfl⟩
theorem Si (b:Nat) (w:World) (h0:w.cell? ⟨b,0,none⟩=some (.pointer none)) (f:w.shape? b=some (123,2)) (l:w.frozen? ⟨b,0,none⟩=false):
  Calls ab 127 #[.pointer (some ⟨b,0,none⟩)] w λe w'=>e= .returned (.tuple #[])/\w'=w.setCell ⟨b,0,none⟩ (.pointer (some ⟨b,0,none⟩)):=by
 obtain ⟨j,hj,g⟩:=Option.map_eq_some_iff.1 (show (ab.info? 123).map (·.size)=some 2 by kernel_rfl)
 have a:liesAt ab ab.depth 123 (2 / ab.cellsOf 123) 0 123 1=true:=by kernel_rfl
 have hf:ab.funcs[127]? =some a7:=by kernel_rfl
 have hn:a7.ntmps=20:=by kernel_rfl
 have mixed:ab.follows .mixedOrders=true:=by kernel_rfl
 have m:=acp;have v:=run_underlying m
 have c:=Vv;have s:=run_underlying c
 have n:=abD;have x:=run_underlying n
 have o:=acm;have y:=run_underlying o
 have p:=aaq;have z:=run_underlying p
 have h:=VA;have q:=run_underlying h
 have d:=Vn;have u:=run_underlying d
 have k:=TY;have t:=run_underlying k
 have i:=U0;have r:=run_underlying i
 go_enter hf,hn
 go_wp2
 rw [Lib.run_to_unsafe w ⟨b,0,none⟩ c d hj (by rw [g];decide) f (Nat.zero_lt_succ 1)]
 simp only [Result.andThen]
 rw [Oper.upon_value]
 go_wp2
 rw [run_callFunc_extern (fn:=Tryz.f192) (by kernel_rfl) (by kernel_rfl) (by kernel_rfl) (by kernel_rfl) (e:=Extern.AbiNoEscape.same) (by kernel_rfl)]
 rw [Lib.run_noEscape]
 simp only [Result.andThen]
 rw [Oper.upon_value]
 go_wp2
 rw [Lib.run_from_unsafe w ⟨b,0,none⟩ d c hj f a]
 simp only [Result.andThen]
 rw [Oper.upon_value]
 go_wp2
 go_end0
 exact ⟨rfl,rfl⟩
theorem YD {w:World} {b:Nat} {p u:Value} {n:Nat} {bs:List Value} (h:BdAt w 123 5 b p u n bs):
  Calls ab 127 #[.pointer (some ⟨b,0,none⟩)] w λE w'=>E= .returned (.tuple #[])/\BdAt w' 123 5 b (.pointer (some ⟨b,0,none⟩)) u n bs/\Grew w w' b u u:=by
 have g:b < w.heap.size:=(al.1 h.heap).1
 rcases h.addr with rfl | rfl
 ·refine (Si b w (by rw [ad h.heap];rfl) (by simp [a8,h.heap]) (a5 h.heap 0)).mono ?_
  rintro E w' ⟨rfl,rfl⟩
  have hk: ∀k,k≠b->(w.setCell ⟨b,0,none⟩ (.pointer (some ⟨b,0,none⟩))).heap[k]? =w.heap[k]? := λk hk=>Below.heap_setCell _ _ _ _ (λe=>hk (by simp [e]))
  have a:(w.setCell ⟨b,0,none⟩ (.pointer (some ⟨b,0,none⟩))).heap[b]? =some (.cells #[.pointer (some ⟨b,0,none⟩),u] 123 (0,0)):=by simp [a1,aB,h.heap]
  refine ⟨rfl,⟨a,.inr rfl,h.own.kept (row:=some b) ⟨rfl,rfl,rfl,by simp [a1],λk _ d=>hk k (λe=>d (by rw [e]))⟩ (.inr h.ne),h.ne⟩,⟨rfl,rfl,rfl,by simp [a1],λk c T z hc=> ?_,λk _ f _=>hk k f,λk hk=> .inl hk⟩⟩
  by_cases e:k=b
  ·subst e
   rw [h.heap] at hc;cases hc
   exact ⟨_,_,a,rfl⟩
  ·exact ⟨c,z,(hk k e).trans hc,rfl⟩
 ·refine (U1 b w (by rw [ad h.heap];rfl)).mono ?_
  rintro E w' ⟨rfl,rfl⟩
  exact ⟨rfl,h,⟨rfl,rfl,rfl,Nat.le_refl _,.refl _,λ_ _ _ _=>rfl,λk hk=> .inl hk⟩⟩
theorem aaK {w w1 w2:World} {b:Nat} {u v':Value} {n m:Nat} {bs i:List Value} (h1:BdAt w1 123 5 b (.pointer (some ⟨b,0,none⟩)) u n bs) (a:Grew w w1 b u u) (r:w2.ownsRow 0 5 1 v' m i) (h:w1.grownBy w2 u.ownBlock) (hs:Sizes w1 w2) (d: ∀k,v'.ownBlock=some k->u.ownBlock=some k\/w1.heap.size<=k):
  w2.heap[b]? =some (.cells #[.pointer (some ⟨b,0,none⟩),u] 123 (0,0))/\BdAt (w2.setCell ⟨b,1,none⟩ v') 123 5 b (.pointer (some ⟨b,0,none⟩)) v' m i/\Grew w (w2.setCell ⟨b,1,none⟩ v') b u v':=by
 have t:b < w1.heap.size:=(al.1 h1.heap).1
 have f:w2.heap[b]? =some (.cells #[.pointer (some ⟨b,0,none⟩),u] 123 (0,0)):=(h.block b t (λe=>h1.ne e.symm)).trans h1.heap
 have q:v'.ownBlock≠some b:= λe=>by
  rcases d b e with g | g
  ·exact h1.ne g
  ·omega
 have hk: ∀k,k≠b->(w2.setCell ⟨b,1,none⟩ v').heap[k]? =w2.heap[k]? := λk hk=>Below.heap_setCell _ _ _ _ (λe=>hk (by simp [e]))
 have j:(w2.setCell ⟨b,1,none⟩ v').heap[b]? =some (.cells #[.pointer (some ⟨b,0,none⟩),v'] 123 (0,0)):=by simp [a1,aB,f]
 have hsz:(w2.setCell ⟨b,1,none⟩ v').heap.size=w2.heap.size:=by simp [a1]
 refine ⟨f,⟨j,.inr rfl,r.kept (row:=some b) ⟨rfl,rfl,rfl,by rw [hsz];exact Nat.le_refl _,λk _ s=>hk k (λe=>s (by rw [e]))⟩ (.inr q),q⟩,⟨h.os.trans a.os,h.tape.trans a.tape,h.output.trans a.output,by rw [hsz];exact Nat.le_trans a.size h.size,(a.sizes.trans hs).trans λk c T z hc=> ?_,λk l o p=>(hk k o).trans ((h.block k (Nat.lt_of_lt_of_le l a.size) (λe=>p e.symm)).trans (a.other k l o p)),λk hk=> ?_⟩⟩
 ·by_cases e:k=b
  ·subst e
   rw [f] at hc;cases hc
   exact ⟨_,_,j,rfl⟩
  ·exact ⟨c,z,(hk k e).trans hc,rfl⟩
 ·rcases d k hk with g | g
  ·exact .inl g
  ·exact .inr (Nat.le_trans a.size g)
theorem QX: ∀args w,(callFunc 127 args).run ab w= .ok (.enter 127 args) w:=Go.AM.enters_of (g:=127) (f:=a7) (by kernel_rfl) (by kernel_rfl) (by kernel_rfl)
theorem UM: ∃i,ab.info? 5=some i/\i.zero=some (.int .u8 0)/\i.size=1/\i.bytes=1:=info_parts (show (ab.info? 5).map (λi=>(i.zero,i.size,i.bytes))=some (some (.int .u8 0),1,1) by kernel_rfl)
theorem aaZ (w:World) (b:Nat) (p u:Value) (n:Nat) (bs:List Value) (s:ByteArray) (h:BdAt w 123 5 b p u n bs) (hlen:n+s.size<=140737488355328):
  Calls ab 59 #[.pointer (some ⟨b,0,none⟩),.string s] w λE w'=>E= .returned (.tuple #[.int .i64 s.size,.nilIface])/\ ∃F u',BdAt w' 123 5 b F u' (n+s.size) (bs++strCells s)/\Grew w w' b u u':=by
 obtain ⟨i0,hi,i,j,k⟩:=UM
 have hf:ab.funcs[59]? =some Tryz.f59:=by kernel_rfl
 have hn:Tryz.f59.ntmps=19:=by kernel_rfl
 have mixed:ab.follows .mixedOrders=true:=by kernel_rfl
 have G:=acp;have R:=run_underlying G
 have o:=Vv;have K:=run_underlying o
 have H:=abD;have S:=run_underlying H
 have y:=acm;have T:=run_underlying y
 have z:=aaq;have U:=run_underlying z
 have l:=VA;have I:=run_underlying l
 have r:=Vn;have M:=run_underlying r
 have q:=TY;have L:=run_underlying q
 have m:=U0;have J:=run_underlying m
 have v: ∀args w,(callFunc 127 args).run ab w= .ok (.enter 127 args) w:=QX
 go_enter hf,hn
 go_wp2_with (go_at_fn 127;refine (YD h).mono ?_)
 rintro E w1 ⟨rfl,h1,A⟩
 have N:w1.cell? ⟨b,0,none⟩=some (.pointer (some ⟨b,0,none⟩)):=by rw [ad h1.heap];rfl
 have c1:w1.cell? ⟨b,1,none⟩=some u:=by rw [ad h1.heap];rfl
 go_wp2_with (at_builtin;refine My _ rfl _ _ 121 9 rfl 5 i0 y z hi i j k _ _ _ rfl h1.own s rfl ?c3 hlen ?_)
 case c3=>unfold maxLen;omega
 intro v' w2 a e c f
 obtain ⟨d,C,D⟩:=aaK h1 A a e c f
 have O:w2.cell? ⟨b,0,none⟩=some (.pointer (some ⟨b,0,none⟩)):=by rw [ad d];rfl
 have P:w2.cell? ⟨b,1,none⟩=some u:=by rw [ad d];rfl
 have Q:w2.frozen? ⟨b,1,none⟩=false:=a5 d 1
 obtain ⟨t,x,cap,rfl⟩: ∃t x cap,v'= .slice t x cap:=by
  rcases a.2 with ⟨hv,_⟩ | ⟨g,cap,cur,hv,_⟩
  ·exact ⟨_,_,_,hv⟩
  ·exact ⟨_,_,_,hv⟩
 go_wp2
 go_ret2
 exact ⟨rfl,_,_,C,D⟩
theorem adH (w:World) (b:Nat) (p u:Value) (n:Nat) (bs:List Value) (c:Int) (h:BdAt w 123 5 b p u n bs) (hlen:n+1<=140737488355328):
  Calls ab 122 #[.pointer (some ⟨b,0,none⟩),.int .u8 c] w λE w'=>E= .returned .nilIface/\ ∃H u',BdAt w' 123 5 b H u' (n+1) (bs++[.int .u8 c])/\Grew w w' b u u':=by
 obtain ⟨i0,hi,l,m,o⟩:=UM
 have hf:ab.funcs[122]? =some Tryz.f122:=by kernel_rfl
 have hn:Tryz.f122.ntmps=17:=by kernel_rfl
 have mixed:ab.follows .mixedOrders=true:=by kernel_rfl
 have I:=acp;have U:=run_underlying I
 have s:=Vv;have N:=run_underlying s
 have J:=abD;have V:=run_underlying J
 have A:=acm;have W:=run_underlying A
 have K:=aaq;have X:=run_underlying K
 have q:=VA;have L:=run_underlying q
 have v:=Vn;have P:=run_underlying v
 have t:=TY;have O:=run_underlying t
 have r:=U0;have M:=run_underlying r
 have y: ∀args w,(callFunc 127 args).run ab w= .ok (.enter 127 args) w:=QX
 go_enter hf,hn
 go_wp2_with (go_at_fn 127;refine (YD h).mono ?_)
 rintro E w1 ⟨rfl,h1,C⟩
 have Q:w1.cell? ⟨b,0,none⟩=some (.pointer (some ⟨b,0,none⟩)):=by rw [ad h1.heap];rfl
 have c1:w1.cell? ⟨b,1,none⟩=some u:=by rw [ad h1.heap];rfl
 have D:b < w1.heap.size:=(al.1 h1.heap).1
 go_wp2_with (at_builtin;refine L6 _ rfl _ _ 121 rfl 5 i0 A hi l m o _ _ _ rfl (h1.own.alloc _) ⟨w1.heap.size,0,none⟩ 1 1 [.int .u8 c] rfl rfl ?c1 ?c2 ?c3 hlen ?_)
 case c1=>
  intro j u hj
  match j,hj with
  | 0,hj=>simp at hj;subst hj;simp [Addr.add]
 case c2=>intro u hu;simp at hu;subst hu;rfl
 case c3=>unfold maxLen;omega
 intro v' w2 a f d i
 obtain ⟨e,F,G⟩:=aaK (BdAt.alloc h1 _) (C.alloc _) a f d (λk hk=>by have:=i k hk;simpa using this)
 have R:w2.cell? ⟨b,0,none⟩=some (.pointer (some ⟨b,0,none⟩)):=by rw [ad e];rfl
 have S:w2.cell? ⟨b,1,none⟩=some u:=by rw [ad e];rfl
 have T:w2.frozen? ⟨b,1,none⟩=false:=a5 e 1
 obtain ⟨x,z,cap,rfl⟩: ∃x z cap,v'= .slice x z cap:=by
  rcases a.2 with ⟨hv,_⟩ | ⟨g,cap,cur,hv,_⟩
  ·exact ⟨_,_,_,hv⟩
  ·exact ⟨_,_,_,hv⟩
 go_wp2
 go_ret
 exact ⟨rfl,_,_,F,G⟩
theorem FM (w:World) (a:Addr) (n k:Nat) (h:k≠a.block):(w.freeze a n).heap[k]? =w.heap[k]? :=by
 unfold bb
 split
 ·rfl
 ·simp [aB,Ne.symm h]
theorem Ro (w:World) (a:Addr) (n:Nat):Sizes w (w.freeze a n):= λb c T z hb=>by
 by_cases e:b=a.block
 ·subst e
  unfold bb
  split
  ·exact ⟨c,z,hb,rfl⟩
  ·obtain ⟨lo,hi⟩:=z
   exact ⟨c,_,by simp [aB,hb];rfl,rfl⟩
 ·exact ⟨c,z,(FM w a n b e).trans hb,rfl⟩
theorem vW (w:World) (a:Addr) (n:Nat):(w.freeze a n).heap.size=w.heap.size/\(w.freeze a n).os=w.os/\(w.freeze a n).tape=w.tape/\(w.freeze a n).output=w.output:=by
 unfold bb
 split
 ·exact ⟨rfl,rfl,rfl,rfl⟩
 ·exact ⟨by simp,rfl,rfl,rfl⟩
theorem QC (w:World) (b:Nat) (p u:Value) (l:List UInt8) (h:BdAt w 123 5 b p u l.length (byteCells l)):
  Calls ab 62 #[.pointer (some ⟨b,0,none⟩)] w λE w'=>E= .returned (.string ⟨l.toArray⟩)/\
   w'.os=w.os/\w'.tape=w.tape/\w'.output=w.output/\w.heap.size<=w'.heap.size/\Sizes w w'/\ ∀k,k < w.heap.size->u.ownBlock≠some k->w'.heap[k]? =w.heap[k]? :=by
 have hf:ab.funcs[62]? =some Tryz.f62:=by kernel_rfl
 have hn:Tryz.f62.ntmps=14:=by kernel_rfl
 have r:ab.cellsOf 5=1:=by kernel_rfl
 have v:b < w.heap.size:=(al.1 h.heap).1
 have mixed:ab.follows .mixedOrders=true:=by kernel_rfl
 have J:=acp;have T:=run_underlying J
 have D:=Vv;have P:=run_underlying D
 have K:=abD;have U:=run_underlying K
 have L:=acm;have V:=run_underlying L
 have M:=aaq;have X:=run_underlying M
 have A:=VA;have N:=run_underlying A
 have F:=Vn;have R:=run_underlying F
 have m:=TY;have Q:=run_underlying m
 have C:=U0;have O:=run_underlying C
 have a:=h.heap
 have c: ∀(W:World) (q:Option Addr),(a6 #[206,3] 9 #[.pointer q,.int .i64 0]).run ab W= .ok (.string .empty) W:= λW q=>Lib.run_unsafeString_none W _ _ _ q
 rcases h.own.2 with ⟨rfl,y⟩ | ⟨g,cap,cur,rfl,_,G,I,s,H,z⟩
 ·have hl:l=[]:=List.length_eq_zero_iff.1 y
  subst hl
  have c1:w.drew.cell? ⟨b,1,none⟩=some (.slice none 0 0):=by
   have:w.drew.heap[b]? =some (.cells #[p,.slice none 0 0] 123 (0,0)):=a
   rw [ad this];rfl
  have n:=c
  have d:(ao #[121] 206 #[.slice none 0 0]).run ab w.drew= .ok (.pointer none) w.drew:=rfl
  go_enter hf,hn
  go_wp2
  go_region_o
  all_goals (go_wp2;go_ret;exact ⟨rfl,rfl,rfl,rfl,Nat.le_refl _,.refl _,λ_ _ _=>rfl⟩)
 ·by_cases o:l.length=0
  ·have hl:l=[]:=List.length_eq_zero_iff.1 o
   subst hl
   have n:=c
   by_cases f:cap=0
   ·subst f
    have c1:w.drew.cell? ⟨b,1,none⟩=some (.slice (some ⟨g,0,none⟩) 0 0):=by
     have:w.drew.heap[b]? =some (.cells #[p,.slice (some ⟨g,0,none⟩) 0 0] 123 (0,0)):=a
     rw [ad this];rfl
    have d:(ao #[121] 206 #[.slice (some ⟨g,0,none⟩) 0 0]).run ab w.drew= .ok (.pointer (some ⟨w.drew.heap.size,0,none⟩)) (w.drew.alloc (.view ⟨g,0,none⟩ 5)):=
     Lib.run_unsafeSliceData_zero w.drew _ _ 5 m ⟨g,0,none⟩ 0 (5,cur.size) (by have i:w.drew.heap[g]? =some (.cells cur 5 (0,0)):=G;simp [a8,i])
    have c2:(w.drew.alloc (.view ⟨g,0,none⟩ 5)).cell? ⟨b,1,none⟩=some (.slice (some ⟨g,0,none⟩) 0 0):=by
     have:(w.drew.alloc (.view ⟨g,0,none⟩ 5)).heap[b]? =_:=(bd w.drew _ b v).trans a
     rw [ad this];rfl
    have c3:(w.alloc (.view ⟨g,0,none⟩ 5)).drew.cell? ⟨b,1,none⟩=some (.slice (some ⟨g,0,none⟩) 0 0):=c2
    have S:w.cell? ⟨b,1,none⟩=some (.slice (some ⟨g,0,none⟩) 0 0):=c1
    go_enter hf,hn
    go_wp2
    go_region_o
    all_goals (go_wp2;go_ret;exact ⟨rfl,rfl,rfl,rfl,by show w.heap.size<=(w.heap.push _).size;simp,Bk w _,λk hk _=>bd w.drew _ k hk⟩)
   ·have c1:w.drew.cell? ⟨b,1,none⟩=some (.slice (some ⟨g,0,none⟩) 0 cap):=by
     have:w.drew.heap[b]? =some (.cells #[p,.slice (some ⟨g,0,none⟩) 0 cap] 123 (0,0)):=a
     rw [ad this];rfl
    have d:(ao #[121] 206 #[.slice (some ⟨g,0,none⟩) 0 cap]).run ab w.drew= .ok (.pointer (some ⟨g,0,none⟩)) w.drew:=a2 _ _ _ _ _ _ f
    clear f
    go_enter hf,hn
    go_wp2
    go_region_o
    all_goals (go_wp2;go_ret;exact ⟨rfl,rfl,rfl,rfl,Nat.le_refl _,.refl _,λ_ _ _=>rfl⟩)
  ·have c1:w.drew.cell? ⟨b,1,none⟩=some (.slice (some ⟨g,0,none⟩) l.length cap):=by
    have:w.drew.heap[b]? =some (.cells #[p,.slice (some ⟨g,0,none⟩) l.length cap] 123 (0,0)):=a
    rw [ad this];rfl
   have h0:l≠[]:= λe=>o (by rw [e];rfl)
   have d:(ao #[121] 206 #[.slice (some ⟨g,0,none⟩) l.length cap]).run ab w.drew= .ok (.pointer (some ⟨g,0,none⟩)) w.drew:=a2 _ _ _ _ _ _ (by omega)
   have n:(a6 #[206,3] 9 #[.pointer (some ⟨g,0,none⟩),.int .i64 l.length]).run ab w.drew= .ok (.string ⟨l.toArray⟩) (w.drew.freeze ⟨g,0,none⟩ l.length):=by
    refine Lib.run_unsafeString_row w.drew 206 3 9 5 m r g cur.size (by have i:w.drew.heap[g]? =some (.cells cur 5 (0,0)):=G;simp [a8,i]) l h0 (by omega) (by unfold maxLen at s;omega) ?_
    intro j x hx
    have:=h.own.cells (g:=g) rfl j (.int .u8 x.toNat) (by simp [Lib.byteCells,hx])
    exact this
   go_enter hf,hn
   go_wp2
   go_region_o
   all_goals (go_wp2;go_ret;exact ⟨rfl,(vW w.drew _ _).2.1,(vW w.drew _ _).2.2.1,(vW w.drew _ _).2.2.2,Nat.le_of_eq (vW w.drew _ _).1.symm,Ro w.drew _ _,λk hk t=>FM w.drew _ _ k (λe=>t (by simp [Value.ownBlock,e]))⟩)
theorem qo:ay ab 59 ⟨.obj (va 123 5),false,[1,1],0,mo⟩:=by
 refine aaG (λrest=>by simp [mo]) λw ok ls vs args r es a hr hlen hv=> ?_
 match vs,hlen with
 | [f,g],_=>
   cases hv
   unfold mo at hr
   split at hr
   ·rename_i x d s heq
    simp only [List.cons.injEq,IV.lst.injEq,and_true] at heq
    obtain ⟨⟨rfl,rfl⟩,rfl⟩:=heq
    split at hr
    ·rename_i hle
     cases hr
     obtain ⟨v,rfl⟩: ∃v,args=[v]:=by
      match args,a.1 with
      | [v],_=>exact ⟨v,rfl⟩
     have hv:v= .string s:=by
      rcases a.2 0 [.str s] v rfl rfl with ⟨y,c,e⟩ | ⟨c,_⟩
      ·cases c;cases e;rfl
      ·simp at c
     subst hv
     refine ⟨yg s,strCells s,.tuple #[.int .i64 s.size,.nilIface],rfl,by simp [yg,strCells],λw' ok'=>aeF w' ok' s,λw' ok'=>⟨_,rfl,.inl ⟨rfl,.int _ _⟩,.inl ⟨rfl,.nili⟩,trivial⟩,λb p u bs hb=> ?_⟩
     rw [strCells_length]
     exact aaZ w b p u _ bs s hb hle
    ·cases hr
   ·cases hr
theorem rE:ay ab 122 ⟨.obj (va 123 5),false,[1],0,Hm⟩:=by
 refine aaG (λrest=>by simp [Hm]) λw ok ls vs args r es a hr hlen hv=> ?_
 match vs,hlen with
 | [f,g],_=>
   cases hv
   unfold Hm at hr
   split at hr
   ·rename_i x d s heq
    simp only [List.cons.injEq,IV.lst.injEq,and_true] at heq
    obtain ⟨⟨rfl,rfl⟩,rfl⟩:=heq
    split at hr
    ·rename_i hle
     cases hr
     obtain ⟨v,rfl⟩: ∃v,args=[v]:=by
      match args,a.1 with
      | [v],_=>exact ⟨v,rfl⟩
     have hv:v= .int .u8 s:=by
      rcases a.2 0 [.int .u8 s] v rfl rfl with ⟨y,c,e⟩ | ⟨c,_⟩
      ·cases c;cases e;rfl
      ·simp at c
     subst hv
     exact ⟨_,[.int .u8 s],.nilIface,rfl,rfl,λw' ok'=>afx w' ok' s,λw' ok'=> .inl ⟨rfl,.nili⟩,λb p u bs hb=>adH w b p u _ bs s hb hle⟩
    ·cases hr
   ·cases hr
theorem tY:ay ab 62 ⟨.inl (strJ 123 5),false,[],0,λ_=>none⟩:=aaD QC
end Go.AM
