/- Walks by hand: eight bytes as a number, from the last one on. -/
import Derived.Test.YtgoenohknokcmaaGreatAe
import Derived.Test.YtgoenohknokcmaaGreatProg
open Go.Fence renaming wide->ab
open Go.Proofs.Tryz renaming prog->ad,f244->b3
open Go.Lib renaming bytesWorld_size->ao,bytesWorld->aB
open Array renaming getElem?_eq_some_iff->a1,replicate_succ->a7,replicate_zero->a8
open Go.World renaming putObj_heap_other->a6,alloc_eq->bC,drew_eq->bR,freeze->b0,alloc->b1,drew->b2,cell?->b5
open List renaming append_toArray->bb,drop_eq_getElem_cons->bd,size_toArray->bf,push_toArray->bm,length_cons->bs,cons_append->bx,length_nil->bA,nil_append->bB
open Nat renaming le_refl->br,reduceAdd->bM,reduceSub->bO,le_trans->b4
set_option linter.unusedVariables false
set_option linter.unusedSimpArgs false
set_option maxRecDepth 100000
namespace Go.AM
open Go.Proofs Go.RowKit Go.Shelf Go.Lib
 attribute [local go_sem] Oper.semAt_some
theorem abb (nF:Nat) (w:World) (A:Option Addr) (n c:Nat):
  CallsIn ab nF ad 198 #[.slice A n c] w λe b=>e= .returned (.func (.func 244) #[] #[.pointer (some ⟨w.heap.size,0,none⟩)])/\b=w.alloc (.cells #[.slice A n c] 121):=by
 have d: ∀f,ab.fn f:= λ_=>trivial
 have a:ab.depth.isSome=false:=rfl
 have hf:ad.funcs[198]? =some Tryz.f198:=by kernel_rfl
 have hn:Tryz.f198.ntmps=4:=by kernel_rfl
 refine callsIn_of_wp hf rfl trivial ?_ rfl
 simp only [hn,bf,bs,bA,bM,bO,a7,a8,bm,bb,bB,bx]
 gi_wp2
 refine bodyPost_ret (results_tmp rfl _ _ _) rfl ?_
 exact ⟨rfl,rfl⟩
def vN (n k:Nat):List Nat:=((List.range n).drop k).reverse
theorem NJ (n:Nat):vN n n=[]:=by simp [vN]
theorem MN {n k:Nat} (h:k < n):vN n k=vN n (k+1)++[k]:=by
 unfold vN
 rw [bd (by simpa using h)]
 simp
theorem Qb {n k j:Nat} (hk:k<=n) (hj:j<=n) (h:vN n j=vN n k):j=k:=by
 have:=congrArg List.length h
 simp [vN] at this
 omega
def KpF (B b:Nat) (w w':World):Prop:=w'.heap[B]? =w.heap[B]? /\w'.heap[b]? =w.heap[b]?
theorem KpF.refl (B b:Nat) (w:World):KpF B b w w:=⟨rfl,rfl⟩
theorem KpF.trans {B b:Nat} {w w1 w2:World} (h:KpF B b w w1) (k:KpF B b w1 w2):KpF B b w w2:=⟨k.1.trans h.1,k.2.trans h.2⟩
def Qr (l:List UInt8) (x:Nat):Int:=(l.getD x 0).toNat
def FO (W:World) (b n:Nat) (l:List UInt8):Prop:= ∀j,j < n->W.cell? ⟨b,j,none⟩=some (.int .u8 (Qr l j))
theorem FO.block {W a:World} {b n:Nat} {l:List UInt8} (h:FO W b n l) (hb:a.heap[b]? =W.heap[b]?):FO a b n l:= λj hj=>by
 have:=h j hj
 unfold b5 at*
 rw [hb]
 exact this
set_option maxHeartbeats 2000000 in
theorem Zv (nF l B b cap n:Nat) (z:List UInt8) (y:n<=2 ^ 40) (J t:List Nat->World->Prop)
  (D: ∀pre x m,(x < n/\pre=vN n (x+1))->J pre m->YieldAt ab (nF - 1) ad l #[.int .i64 (x:Nat),.int .u8 (Qr z x)] m λe c=>(e= .returned (.bool true)/\J (pre++[x]) c/\KpF B b m c)\/(e= .returned (.bool false)/\t (pre++[x]) c))
  (W:World) (h:Boxed W B 121 (.slice (some ⟨b,0,none⟩) n cap)) (hc:FO W b n z) (h0:J [] W):
  CallsIn ab nF ad 244 #[.func (.yield l) #[] #[],.pointer (some ⟨B,0,none⟩)] W λe c=>(∃v,e= .returned v)/\((∃ys,ys=vN n 0/\J ys c)\/(∃pre,True/\t pre c)):=by
 have F: ∀f,ab.fn f:= λ_=>trivial
 have w:ab.depth.isSome=false:=rfl
 have hf:ad.funcs[244]? =some b3:=by kernel_rfl
 have s:b3.ntmps=19:=by kernel_rfl
 have A:ad.underlying 121=some (.slice 5):=by kernel_rfl
 have E:=h.cell
 refine callsIn_of_wp hf rfl trivial ?_ rfl
 simp only [s,bf,bs,bA,bM,bO,a7,a8,bm,bb,bB,bx]
 gi_wp2
 gi_loopw [3] (λi wr=> ∃k:Nat,k<=n/\i= .int .i64 ((k:Int) - 1)/\J (vN n k) wr/\KpF B b W wr)
  (λi _=>(Yg i+1).toNat)
 case atStart=>exact ⟨n,br _,by simp,by rw [NJ];exact h0,.refl _ _ _⟩
 case round=>
  obtain ⟨k,hk,rfl,d,a⟩:=hrel
  have j:Boxed wr B 121 (.slice (some ⟨b,0,none⟩) n cap):=a.1.trans h
  have u:=j.cell
  cases k with
  | zero=>
    gi_wp2
    go_end0
    exact ⟨⟨_,rfl⟩,.inl ⟨_,rfl,d⟩⟩
  | succ k=>
    have p:((k+1:Nat):Int) - 1=(k:Int):=by omega
    have H:=(hc.block a.2) k (by omega)
    obtain ⟨fn,tmps,assign,body,I,C⟩:=D _ k wr ⟨by omega,rfl⟩ d
    have r:k < n:=by omega
    rw [p]
    gi_wp2
    refine C.mono ?_
    rintro e G (⟨rfl,o,q⟩ | ⟨rfl,g⟩)
    ·gi_wp2
     refine ⟨⟨k,by omega,rfl,by rw [MN r];exact o,a.trans q⟩,by simp [Yg]⟩
    ·gi_wp2
     refine bodyPost_ret (results_none rfl _ _ _) rfl ?_
     exact ⟨⟨_,rfl⟩,.inr ⟨_,trivial,g⟩⟩
def fixF (l:List UInt8) (k:Nat):Int:=Je (l.drop k)
theorem aaP (l:List UInt8):fixF l l.length=0:=by simp [fixF,Je]
theorem Y4 {l:List UInt8} {k:Nat} (h:k < l.length):fixF l k=Ky (fixF l (k+1)) (l.getD k 0):=by
 unfold fixF
 rw [bd h,Je,List.getD_eq_getElem?_getD,List.getElem?_eq_getElem h];rfl
def Zz (w2:World) (f:Nat->Int) (U n:Nat) (pre:List Nat) (W:World):Prop:=
 ∃k:Nat,pre=vN n k/\k<=n/\Boxed W U 129 (.int .u64 (f k))/\W.os=w2.os/\W.tape=w2.tape/\W.output=w2.output/\w2.heap.size<=W.heap.size/\ ∀b,b < w2.heap.size->b≠U->W.heap[b]? =w2.heap[b]?
def afp (a:Value) (s:ByteArray) (U S B cap x:Nat):Act:=
 { tmps:= #[a,undef,.int .u64 0,.pointer (some ⟨U,0,none⟩),undef,.int .u8 (Qr s.data.toList x),a,.string s,.slice (some ⟨S,0,none⟩) s.size cap,.func (.func 244) #[] #[.pointer (some ⟨B,0,none⟩)],.int .i64 (x:Nat),.int .u8 (Qr s.data.toList x),undef,undef,undef,undef,undef,undef]
   defers:=[] }
theorem Zz.own2 (w2:World) (f:Nat->Int) (U n B:Nat) (p:U < w2.heap.size) (o:w2.heap.size<=B):Hk B (Zz w2 f U n):=by
 rintro s W m row ⟨k,h1,h2,g,h,i,j,d,l⟩ a hr
 have c: ∀b,b < B->some b≠row:= λb hb e=>by have:=(hr b e.symm).1;omega
 exact ⟨k,h1,h2,g.kept a (c _ (by omega)),a.os.trans h,a.tape.trans i,a.output.trans j,b4 d a.size,λb hb hn=>(a.block b (Nat.lt_of_lt_of_le hb d) (c _ (by omega))).trans (l b hb hn)⟩
set_option maxHeartbeats 4000000 in
theorem afA (eT:Enters ad 138) (nF:Nat) (h1:1<=nF) (w:World) (Z:Value) (TK:ByteArray->World->Prop)
  (m:Calls ad 138 #[Z,.int .i64 8] (w.alloc (.cells #[.int .u64 0] 129)) λe w2=> ∃s,e= .returned (.string s)/\s.size<=8/\w2.heap[w.heap.size]? =some (.cells #[.int .u64 0] 129 (0,0))/\TK s w2):
  CallsIn ab nF ad 139 #[Z] w λe g=> ∃s w2,e= .returned (.int .u64 (Je s.data.toList))/\s.size<=8/\TK s w2/\g.os=w2.os/\g.tape=w2.tape/\g.output=w2.output/\w2.heap.size<=g.heap.size/\ ∀b,b < w2.heap.size->b≠w.heap.size->g.heap[b]? =w2.heap[b]? :=by
 have a4: ∀f,ab.fn f:= λ_=>trivial
 have al:ab.depth.isSome=false:=rfl
 have hf:ad.funcs[139]? =some Tryz.f139:=by kernel_rfl
 have hn:Tryz.f139.ntmps=18:=by kernel_rfl
 refine callsIn_of_wp_marks hf rfl trivial ?_ rfl
 simp only [hn,bf,bs,bA,bM,bO,a7,a8,bm,bb,bB,bx]
 gi_wp2_with (first
  | (gi_at_call 138;refine (callsIn_wide.2 m).mono ?_;rintro e w2 ⟨s,rfl,N,p,F⟩
     have a3:=Lib.run_convert_string_bytes (P:=ad) w2 9 121 5 s (u:= .string) (by kernel_rfl) (by kernel_rfl) (by kernel_rfl)
     have y:=ao w2 5 s)
  | (gi_at_call 198;refine (abb _ _ _ _ _).mono ?_;rintro e n ⟨rfl,d⟩))
 have hl:s.data.toList.length=s.size:=by simp
 have i:w.heap.size < w2.heap.size:=(a1.1 p).1
 have a5:n.heap.size=w2.heap.size+2:=by rw [d];simp [ao]
 have H:Below w2.heap.size w2 (aB w2 5 s):=⟨by simp [aB,b0,b1,b2,-bC,-bR],by simp [aB,b0,b1,b2,-bC,-bR],by simp [aB,b0,b1,b2,-bC,-bR],by rw [ao];omega,λk hk=>Lib.bytesWorld_at_old w2 5 s k hk⟩
 have a:Below w2.heap.size w2 n:=by rw [d];exact H.alloc (by rw [ao];omega) _
 rw [<-d]
 have I:Boxed n (w2.heap.size+1) 121 (.slice (some ⟨w2.heap.size,0,none⟩) s.size (grownCap w2 s.size 0 5)):=by
  rw [d];have:=Boxed.new (aB w2 5 s) 121 (.slice (some ⟨w2.heap.size,0,none⟩) s.size (grownCap w2 s.size 0 5));rwa [y] at this
 have L:FO n w2.heap.size s.size s.data.toList:= λj hj=>by
  have:=Lib.bytesWorld_cell w2 5 s j (by omega)
  unfold b5 at this ⊢
  rw [d]
  rw [show ((aB w2 5 s).alloc (.cells #[.slice (some ⟨w2.heap.size,0,none⟩) s.size (grownCap w2 s.size 0 5)] 121)).heap[w2.heap.size]? =(aB w2 5 s).heap[w2.heap.size]? from Below.heap_alloc _ _ _ (by rw [ao];omega)]
  exact this
 have G:Boxed n w.heap.size 129 (.int .u64 0):=(a.block _ i).trans p
 refine yp rfl h1 (gf:=244) (lb:= #[.pointer (some ⟨w2.heap.size+1,0,none⟩)]) rfl trivial (enters_of (f:=b3) (by kernel_rfl) (by kernel_rfl) (by kernel_rfl))
  (encs:= λx:Nat=> #[.int .i64 (x:Nat),.int .u8 (Qr s.data.toList x)]) (R:= λpre x=>x < s.size/\pre=vN s.size (x+1)) (Kp:=KpF (w2.heap.size+1) w2.heap.size) (Chg:= λA B=>False) (S:= λxs=>xs=vN s.size 0) (Sp:= λ_=>True)
  (λl J Jx W hW hJ a0 hY h0=>Zv (nF - 1) l (w2.heap.size+1) w2.heap.size (grownCap w2 s.size 0 5) s.size s.data.toList (by omega) J Jx hY W
    ((hW.block _ (by omega)).trans I) (L.block (hW.block _ (by omega))) h0)
  (λ_ _ _ _ h=>h.elim) (λh k=>h.trans k) (λW l o o' hl v _ _=>⟨a6 (by omega),a6 (by omega)⟩) (λ_=>rfl)
  (λpre W=>Zz w2 (fixF s.data.toList) w.heap.size s.size pre W) (λc pre W=>False) ?c2 ?c3 (λ_ _ _ h=>h.elim) (λ_ _ _ _ h=>h.elim) ?c6
  (λpre x a' W=>(Zz w2 (fixF s.data.toList) w.heap.size s.size pre W/\n.heap.size+2<=W.heap.size)/\a'=afp Z s w.heap.size w2.heap.size (w2.heap.size+1) (grownCap w2 s.size 0 5) x)
  ?c7 ?assign ?body ?done (λ_ _ _ _ _ _ h=>h.elim)
 case c2=>exact Zz.own2 _ _ _ _ _ i (by omega)
 case c3=>exact λc s W g row h _ _=>h
 case c6=>exact ⟨_,(NJ _).symm,br _,by rw [<-hl,aaP];exact G,a.os,a.tape,a.output,a.size,λb hb _=>a.block b hb⟩
 case c7=>
  intro x a'
  rintro s W g row ⟨⟨h1,h2⟩,h4⟩ hg hr
  exact ⟨⟨Zz.own2 _ _ _ _ _ i (by omega) s W g row h1 hg hr,b4 h2 hg.size⟩,h4⟩
 case assign=>
  rintro l pre x W K q ⟨hx,rfl⟩ C t
  simp only [afp] at t ⊢
  gi_wp2
  exact t _ _ ⟨⟨C,q⟩,rfl⟩ ⟨br _,λk o _ v _=>v⟩ (.refl _ _ _)
 case body=>
  rintro l pre x a' W ⟨hx,rfl⟩ ⟨⟨C,q⟩,rfl⟩
  obtain ⟨k,q1,Q,r,T,U,V,X,Y⟩:=C
  obtain rfl:k=x+1:=Qb (by omega) Q q1.symm
  have a2:w.heap.size < W.heap.size:=by omega
  have g1:=r.cell
  have g2:=r.frozen
  have M:(ab.inRound l).depth.isSome=false:=rfl
  have am: ∀f,(ab.inRound l).fn f:= λ_=>trivial
  simp only [afp]
  gi_wp2
  have O:bits .or .u64 (IntKind.u64.wrap (fixF s.data.toList (x+1)*256)) (IntKind.u64.wrap (Qr s.data.toList x))=fixF s.data.toList x:=by
   rw [Y4 (l:=s.data.toList) (k:=x) (by omega)];rfl
  rw [O]
  have E:Below w.heap.size W (W.setCell ⟨w.heap.size,0,none⟩ (.int .u64 (fixF s.data.toList x))):=(Below.refl w.heap.size W).setCell (by simp) _
  refine ⟨⟨?_,λk o hk v hn=> ?_⟩,⟨?_,?_⟩,⟨x,(MN hx).symm,by omega,r.set _,?_,?_,?_,?_,λb hb hn=> ?_⟩⟩
  ·simp
  ·rw [Below.heap_setCell _ _ _ _ (by simp;omega)];exact v
  ·rw [Below.heap_setCell _ _ _ _ (by simp;omega)]
  ·rw [Below.heap_setCell _ _ _ _ (by simp;omega)]
  ·exact E.os.trans T
  ·exact E.tape.trans U
  ·exact E.output.trans V
  ·simpa using X
  ·rw [Below.heap_setCell _ _ _ _ (by simp;omega)];exact Y b hb hn
 case done=>
  rintro D xs W hD rfl ⟨k,q1,Q,r,T,U,V,X,Y⟩ t
  obtain rfl:k=0:=Qb (Nat.zero_le _) Q q1.symm
  have g1:=r.cell
  have z:D=w2.heap.size+1+1:=by omega
  subst z
  gi_wp2
  refine ⟨by simp,.inl ⟨_,_,rfl,run_takeDeferred t,?_⟩⟩
  refine ⟨_,results_tmp rfl _ _ _,s,w2,rfl,N,F,T,U,V,?_,λb hb hn=> ?_⟩
  ·simpa using X
  ·exact (a6 (by omega)).trans (Y b hb hn)
theorem xS {T:IV->IV->IV->Option (List IV)} {Z:List (List IV)->Option (List IV)} (R: ∀a b c,Z [[a,b],[c]]=T a b c) (hT:ay ad 138 ⟨.obj [.imm,.imm],false,[1],0,Z⟩) (eT:Enters ad 138):
  ay ad 139 ⟨.obj [.imm,.imm],false,[1],0,λl=>match l with | [[E,F]]=>afk T E F | _=>none⟩:=by
 refine ⟨λw ok al vs D pl pA args r hok hlen tv f m hr=> ?_,λw ok w' ok' al args r _ _ _ hr=> ?_⟩
 ·simp only at hr
  split at hr
  ·rename_i E F heq
   cases heq
   obtain rfl:args=[]:=List.length_eq_zero_iff.1 m.1.symm
   unfold afk at hr
   obtain ⟨q,hq,hr⟩:=Option.bind_eq_some_iff.1 hr
   split at hr
   ·rename_i y0 y1 s
    split at hr
    ·rename_i h8
     cases hr
     have y: ∀(pA:Nat->Pl) b,¬ObjBuf [.imm,.imm] pA b:= λpA b ⟨j,sz,base,hj,_⟩=>by
      match j with
      | 0 | 1=>cases hj
      | n+2=>cases hj
     have k:Below w.heap.size w (w.alloc (.cells #[.int .u64 0] 129)):=(Below.refl _ w).alloc (br _) _
     have Y:ObjVal (w.alloc (.cells #[.int .u64 0] 129)) ok [.imm,.imm] [E,F] D pl pA:=by
      obtain ⟨⟨b,base,c,T,g,t,N,O,P⟩,V,W,X⟩:=tv
      refine ⟨⟨b,base,c,T,g,t,(k.block b (f b (.inl ⟨base,g⟩))).trans N,O,λj s hj=> ?_⟩,V,W,X⟩
      obtain ⟨u,Q,x⟩:=P j s hj
      refine ⟨u,Q,?_⟩
      match j,hj with
      | 0,hj=>cases hj;exact (show RV w ok _ u from x).keeps ⟨λb hb=>k.block b (hok b hb),λ_ h=>h⟩
      | 1,hj=>cases hj;exact (show RV w ok _ u from x).keeps ⟨λb hb=>k.block b (hok b hb),λ_ h=>h⟩
     have o:=hT.1 (w.alloc (.cells #[.int .u64 0] 129)) ok [[.int .i64 8]] [E,F] D pl pA [.int .i64 8] [y0,y1,.str s] (λb hb=>by have:=hok b hb;simp;omega) rfl Y (λb hb=>by have:=f b hb;simp;omega) ⟨rfl,λi c v g t=>by
      match i with
      | 0=>cases g;cases t;exact .inl ⟨_,rfl,.int _ _⟩
      | n+1=>exact absurd g (by simp)⟩ ((R _ _ _).trans hq)
     have:=afA eT 1 (br _) w D (λs' w2=>s'=s/\ ∃ok' d,w2.os=w.os/\w2.tape=w.tape/\w2.output=w.output/\w.heap.size+1<=w2.heap.size/\Sizes w w2/\
      (∀b,b < w.heap.size-> ¬ObjLoc [.imm,.imm] pl pA b->w2.heap[b]? =w.heap[b]?)/\(∀b,ok b->ok' b)/\(∀b,ok' b->ok b\/(w.heap.size < b/\b < w2.heap.size))/\ObjVal w2 ok' [.imm,.imm] [y0,y1,.int .u64 (Je s.data.toList)] D pl d) (o.mono λe w2 he=>by
        obtain ⟨v,ok',d,rfl,G,I,J,e4,K,C,L,p,M,a2,H⟩:=he
        have U:w.heap.size+1<=w2.heap.size:=by simpa using e4
        obtain rfl:v= .string s:=by
         rcases H with ⟨_,h⟩ | ⟨h,_⟩
         ·cases h;rfl
         ·omega
        refine ⟨s,rfl,h8,(C w.heap.size (by simp) λhL=>absurd (f _ hL) (Nat.lt_irrefl _)).trans (World.alloc_heap_new w _),rfl,ok',d,G.trans k.os,I.trans k.tape,J.trans k.output,U,
         Sizes.trans (λb c T z hb=>⟨c,z,(k.block b (a1.1 hb).1).trans hb,rfl⟩) K,λb hb hn=>(C b (by simp;omega) hn).trans (k.block b hb),L,λb hb=> ?_,M.congr λj hj=> ?_⟩
        ·rcases p b hb with h | h | h
         ·exact .inl h
         ·simp at h;exact .inr ⟨by omega,h.2⟩
         ·exact absurd h (y _ _)
        ·match j,hj with
         | 0,_=>rfl
         | 1,_=>rfl)
     refine (callsIn_wide.1 this).mono λe W' he=> ?_
     obtain ⟨s',w2,rfl,_,⟨rfl,ok',d,G,I,J,e4,K,C,L,p,M⟩,d1,d2,d3,d4,A⟩:=he
     refine ⟨_,ok',d,rfl,d1.trans G,d2.trans I,d3.trans J,by omega,λb c T z hb=> ?_,λb hb hn=>(A b (by omega) (by omega)).trans (C b hb hn),L,λb hb=> ?_,?_,λb hb=>absurd hb (y _ _),.inl ⟨rfl,.int _ _⟩⟩
     ·have S:=(a1.1 hb).1
      obtain ⟨c',z',h1,h2⟩:=K b c T z hb
      exact ⟨c',z',(A b (by omega) (by omega)).trans h1,h2⟩
     ·rcases p b hb with h | h
      ·exact .inl h
      ·exact .inr (.inl ⟨by omega,by omega⟩)
     ·obtain ⟨⟨b,base,c,T,g,t,N,O,P⟩,V,W,X⟩:=M
      have S:=f b (.inl ⟨base,g⟩)
      have hk:Keeps w2 ok' W' ok':=⟨λb hb=>A b (by rcases p b hb with h | h<;>first | (have:=hok b h;omega) | omega) (by rcases p b hb with h | h<;>first | (have:=hok b h;omega) | omega),λ_ h=>h⟩
      refine ⟨⟨b,base,c,T,g,t,(A b (by omega) (by omega)).trans N,O,λj s hj=> ?_⟩,V,W,X⟩
      obtain ⟨u,Q,x⟩:=P j s hj
      refine ⟨u,Q,?_⟩
      match j,hj with
      | 0,hj=>cases hj;exact (show RV w2 ok' _ u from x).keeps hk
      | 1,hj=>cases hj;exact (show RV w2 ok' _ u from x).keeps hk
    ·cases hr
   ·cases hr
  ·cases hr
 ·simp only at hr
  split at hr<;>cases hr
end Go.AM
