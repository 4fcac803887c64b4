/- A replay's tree, plainly: what each of its methods does to rows, moves, steps. -/
import Derived.Test.YtgoenohknokcmaaGreatTr
import Derived.Test.YtgoenohknokcmaaGreatTs
import Derived.Test.YtgoenohknokcmaaGreatMv
set_option linter.unusedVariables false
set_option linter.unusedSimpArgs false
namespace Go.AM
abbrev eTree (b l:List Rw) (ss:List Stp):IV:= .ptr [ar b,ar l,bn ss] 0
theorem clone_Stp {l:List Stp} (hl:l.length < 2 ^ 16):cu (bn l)=some [bn l]:=by
 unfold cu p8
 simp only [List.length_map]
 rw [if_pos ⟨by omega,by simp [AI]⟩]
theorem ipnn_ptr (cs:List IV) (j:Nat):gY (.ptr cs j)=some (.ptr cs j):=rfl
theorem replay_New_eq {b:List Rw} (hb:b.length < 2 ^ 16):jx (ar b)=some [ar b,ar b,bn []]:=by
 unfold jx
 simp only [AQ hb,Option.bind_some]
 rfl
theorem replay_Log_eq {b l:List Rw} {ss:List Stp} (hs:ss.length < 2 ^ 16):bT (eTree b l ss)=some [az (ss.map (·.mv))]:=by
 unfold bT
 show (jr (bn ss)).bind (fun v5=>if j7 (nth v5 0)=true then some [nth v5 0] else none)=_
 rw [K1 hs]
 show (if j7 (az (ss.map (·.mv)))=true then _ else none)=_
 rw [if_pos (Rr _)]
 rfl
theorem replay_Rows_eq {b l:List Rw} {ss:List Stp} (hl:l.length < 2 ^ 16):bk (eTree b l ss)=some [ar l]:=by
 unfold bk
 show (aO (ar l)).bind (fun v5=>if j7 (nth v5 0)=true then some [nth v5 0] else none)=_
 rw [AQ hl]
 show (if j7 (ar l)=true then _ else none)=_
 rw [if_pos (WG _)]
 rfl
theorem replay_Steps_eq {b l:List Rw} {ss:List Stp} (hs:ss.length < 2 ^ 16):cx (eTree b l ss)=some [bn ss]:=by
 unfold cx
 show (cu (bn ss)).bind (fun v5=>if j7 (nth v5 0)=true then some [nth v5 0] else none)=_
 rw [clone_Stp hs]
 show (if j7 (bn ss)=true then _ else none)=_
 rw [if_pos (Up _)]
 rfl
theorem iset_Mv {l:List Mv} {i:Nat} {x:Mv} (h:l[i]? =some x) (r:Mv):zy (az l) i 0 [.int .i64 r.c,.int .i64 r.r,.int .i64 r.par,.int .i64 r.ch,.str r.nm,.flt .f64 r.rk]=some (az (l.set i r)):=by
 simp only [zy,List.getElem?_map,h,Option.map_some,Option.bind_some]
 rw [if_pos (by simp [Tg])]
 simp [setCells,Tg,List.map_set]
theorem rev_loop (l:List Mv) (hl:l.length < 2 ^ 16): ∀(d i:Nat) (s:List Mv),s.length=l.length->(∀p,p < l.length->s[p]? =if p < i\/l.length<=p+i then l[l.length - 1 - p]? else l[p]?)->i<=l.length->l.length<=2*i+2*d+1->
  ∀fuel,d < fuel->iter fuel cr [az s,.int .i64 (i:Int),.int .i64 ((l.length:Int) - 1 - i)]=some (0,[az l.reverse]):=by
 intro d
 induction d with
 | zero=>
   intro i s hs hp hi hd fuel hf
   obtain ⟨n,rfl⟩: ∃n,fuel=n+1:=⟨fuel - 1,by omega⟩
   have hrev:s=l.reverse:=by
    apply List.ext_getElem?
    intro p
    by_cases hpl:p < l.length
    ·rw [hp p hpl,List.getElem?_reverse hpl]
     split
     ·rfl
     ·have:p=l.length - 1 - p:=by omega
      rw [<-this]
    ·rw [List.getElem?_eq_none (by omega),List.getElem?_eq_none (by rw [List.length_reverse];omega)]
   subst hrev
   have hc: ¬((i:Int) < (l.length:Int) - 1 - i):=by omega
   refine o5 n ?_
   unfold cr
   simp only [ag,aC,bV,aJ,hc,decide_false,aF,Option.bind_some]
 | succ d ih=>
   intro i s hs hp hi hd fuel hf
   obtain ⟨n,rfl⟩: ∃n,fuel=n+1:=⟨fuel - 1,by omega⟩
   by_cases hc:(i:Int) < (l.length:Int) - 1 - i
   ·have hil:i < l.length:=by omega
    have hj:((l.length:Int) - 1 - i)=((l.length - 1 - i:Nat):Int):=by omega
    generalize hjj:l.length - 1 - i=j at*
    have hjl:j < l.length:=by omega
    have hxi:s[i]? =some l[i]:=by rw [hp i hil,if_neg (by omega),List.getElem?_eq_getElem hil]
    have hxj:s[j]? =some l[j]:=by rw [hp j hjl,if_neg (by omega),List.getElem?_eq_getElem hjl]
    have hb1:cE (bQ (az s)) (.int .i64 (j:Int))=some j:=by simp [cE,bQ,hs,hjl]
    have hb2:cE (bQ (az s)) (.int .i64 (i:Int))=some i:=by simp [cE,bQ,hs,hil]
    have hs1:=iset_Mv hxi l[j]
    have hxj2:(s.set i l[j])[j]? =some l[j]:=by rw [List.getElem?_set_ne (by omega)];exact hxj
    have hs2:=iset_Mv hxj2 l[i]
    have hstep:cr [az s,.int .i64 (i:Int),.int .i64 (j:Int)]=some (.next [az ((s.set i l[j]).set j l[i]),.int .i64 ((i+1:Nat):Int),.int .i64 ((l.length:Int) - 1 - ((i+1:Nat):Int))]):=by
     have hlt:(i:Int) < (j:Int):=by omega
     have hsub:aa .sub (.int .i64 (j:Int)) (.int .i64 1)=some (.int .i64 ((l.length:Int) - 1 - ((i+1:Nat):Int))):=by
      have e:((l.length:Int) - 1 - ((i+1:Nat):Int))=(j:Int) - 1:=by omega
      rw [e]
      exact pH (by omega) (by omega)
     unfold cr
     simp only [ag,aC,bV,bw,eJ,eF,aJ,hlt,decide_true,aj,Option.bind_some,hb1,hb2,nw hxi,nw hxj,hs1,hs2,hsub,aL (show i < 2 ^ 62 by omega)]
    rw [hj]
    simp only [iter,hstep,Option.bind_some]
    refine ih (i+1) _ (by simp [hs]) (fun p hpl=> ?_) (by omega) (by omega) n (by omega)
    by_cases h1:p=j
    ·subst h1
     rw [List.getElem?_set_self (by simp [hs];omega),if_pos (by omega),List.getElem?_eq_getElem (by omega)]
     congr 2
     omega
    ·rw [List.getElem?_set_ne (Ne.symm h1)]
     by_cases h2:p=i
     ·subst h2
      rw [List.getElem?_set_self (by omega),if_pos (by omega),List.getElem?_eq_getElem (by omega)]
      congr 2
      omega
     ·rw [List.getElem?_set_ne (Ne.symm h2),hp p hpl]
      by_cases h3:p < i\/l.length<=p+i
      ·rw [if_pos h3,if_pos (by omega)]
      ·rw [if_neg h3,if_neg (by omega)]
   ·exact ih i s hs hp hi (by omega) (n+1) (by omega)
theorem reverse_Mv {l:List Mv} (hl:l.length < 2 ^ 16):cI (az l)=some [az l.reverse]:=by
 have h0:aa .sub (.int .i64 ((bQ (az l):Nat):Int)) (.int .i64 1)=some (.int .i64 ((l.length:Int) - 1 - ((0:Nat):Int))):=by
  have e:bQ (az l)=l.length:=by simp [bQ]
  rw [e,show (l.length:Int) - 1 - ((0:Nat):Int)=(l.length:Int) - 1 by omega]
  exact pH (by omega) (by omega)
 unfold cI
 rw [h0]
 simp only [Option.bind_some]
 have h1:=rev_loop l hl l.length 0 l rfl (fun p hp=>by rw [if_neg (by omega)]) (Nat.zero_le _) (by omega) rounds (by have:=bc;omega)
 rw [show (IV.int .i64 0)= .int .i64 ((0:Nat):Int) from rfl,h1]
 rfl
end Go.AM
namespace Go.AM
theorem allV_take {b:List Rw} {L:List Mv} {k:Nat} {x:Mv} (h:L[k]? =some x):allV b (L.take (k+1))=yN (allV b (L.take k)) x:=by
 have e:L.take (k+1)=L.take k++[x]:=by rw [List.take_add_one,h];rfl
 rw [e,DV];rfl
theorem stepsV_take {b:List Rw} {L:List Mv} {k:Nat} {x:Mv} (h:L[k]? =some x):aA b (L.take (k+1))=aA b (L.take k)++[jR (allV b (L.take k)) x]:=by
 have e:L.take (k+1)=L.take k++[x]:=by rw [List.take_add_one,h];rfl
 rw [e,rh];rfl
theorem add_loop {b:List Rw} {L:List Mv} {m:Mv} (hob:OKl b) (hom: ∀x∈L,OKm x) (hm:OKm m) (hn:b.length+L.length < 2 ^ 14) {at0:Nat} (hat:at0<=L.length) (w:List IV) (hw:nth w 1= .int .i64 (at0:Int)): ∀(d k:Nat),k=at0+d->k<=L.length-> ∀fuel,d < fuel->
  iter fuel (ei w (.int .i64 m.c) (.int .i64 m.r) (.int .i64 m.par) (.int .i64 m.ch) (.str m.nm) (.flt .f64 m.rk)) [ar b,ar (allV b (L.take k)),bn (aA b (L.take k)),az (L.drop k).reverse]=
   some (1,[ar b,ar (allV b (L.take at0++m::L.drop at0)),bn (aA b (L.take at0++m::L.drop at0)),.int .i64 ((L.length:Int) - at0),.bool true]):=by
 intro d
 induction d with
 | zero=>
   intro k hk hkl fuel hf
   obtain ⟨n,rfl⟩: ∃n,fuel=n+1:=⟨fuel - 1,by omega⟩
   have hk':k=at0:=by omega
   subst hk'
   have hsl:(aA b (L.take k)).length=k:=by rw [dP,List.length_take];omega
   have hll:bQ (bn (aA b (L.take k)))=k:=by simp [bQ,hsl]
   have hal:(allV b (L.take k)).length<=b.length+k:=by have:=nN (L.take k) b;rw [List.length_take] at this;omega
   have h5:aa .sub (.int .i64 ((k:Nat):Int)) (.int .i64 1)=some (.int .i64 ((k:Int) - 1)):=pH (by omega) (by omega)
   have hge:aa .geq (.int .i64 ((k:Int) - 1)) (.int .i64 (k:Int))=some (.bool false):=by
    have: ¬((k:Int) - 1>=(k:Int)):=by omega
    simp [aa,il,this]
   have happ:lY 6 56 (az (L.drop k).reverse) (.lst [[.int .i64 m.c,.int .i64 m.r,.int .i64 m.par,.int .i64 m.ch,.str m.nm,.flt .f64 m.rk]])=some (az ((L.drop k).reverse++[m])):=FB (l:=(L.drop k).reverse) (k:=[m]) (by simp;omega) (by simp)
   have hrev:=reverse_Mv (l:=(L.drop k).reverse++[m]) (by simp;omega)
   have hre:((L.drop k).reverse++[m]).reverse=m::L.drop k:=by simp
   rw [hre] at hrev
   have hms: ∀x∈m::L.drop k,OKm x:=fun x hx=>by
    rcases List.mem_cons.1 hx with rfl | hx
    ·exact hm
    ·exact hom x (List.mem_of_mem_drop hx)
   have hrun:=PJ (l:=allV b (L.take k)) (ms:=m::L.drop k) (by simp;omega) (hob.allV fun x hx=>hom x (List.mem_of_mem_take hx)) hms
   have hst:=Qd (l:=aA b (L.take k)) (k:=aA (allV b (L.take k)) (m::L.drop k)) (by omega) (by rw [dP];simp;omega)
   have hl16:bQ (az ((L.drop k).reverse++[m]))=L.length - k+1:=by simp [bQ]
   have h16:aa .sub (.int .i64 ((L.length - k+1:Nat):Int)) (.int .i64 1)=some (.int .i64 ((L.length:Int) - k)):=by
    have e:(L.length:Int) - k=((L.length - k+1:Nat):Int) - 1:=by omega
    rw [e]
    exact pH (by omega) (by omega)
   refine o5 n ?_
   unfold ei
   simp only [ag,aC,bV,bw,hw,hll,h5,hge,aF,Option.bind_some,happ,hrev,hrun,hst,hl16,h16,<-DV,<-rh]
 | succ d ih=>
   intro k hk hkl fuel hf
   obtain ⟨n,rfl⟩: ∃n,fuel=n+1:=⟨fuel - 1,by omega⟩
   obtain ⟨q,rfl⟩: ∃q,k=q+1:=⟨k - 1,by omega⟩
   have hql:q < L.length:=by omega
   have hx:L[q]? =some L[q]:=List.getElem?_eq_getElem hql
   generalize L[q]=x at hx
   have hsl:(aA b (L.take (q+1))).length=q+1:=by rw [dP,List.length_take];omega
   have hsl0:(aA b (L.take q)).length=q:=by rw [dP,List.length_take];omega
   have hll:bQ (bn (aA b (L.take (q+1))))=q+1:=by simp [bQ,hsl]
   have hal:(allV b (L.take (q+1))).length<=b.length+(q+1):=by have:=nN (L.take (q+1)) b;rw [List.length_take] at this;omega
   have h5:aa .sub (.int .i64 ((q+1:Nat):Int)) (.int .i64 1)=some (.int .i64 (q:Int)):=by
    have e:(q:Int)=((q+1:Nat):Int) - 1:=by omega
    rw [e]
    exact pH (by omega) (by omega)
   have hge:aa .geq (.int .i64 (q:Int)) (.int .i64 (at0:Int))=some (.bool true):=by
    have:(q:Int)>=(at0:Int):=by omega
    simp [aa,il,this]
   have hix:cE (q+1) (.int .i64 (q:Int))=some q:=by simp [cE];omega
   have hsq:(aA b (L.take (q+1)))[q]? =some (jR (allV b (L.take q)) x):=by
    rw [stepsV_take hx,List.getElem?_append_right (by omega),hsl0,Nat.sub_self];rfl
   have hb3:Yv (.int .i64 (q:Int)) (.int .i64 (q:Int)) (q+1)=some q:=by
    have:R2 (.int .i64 (q:Int)) (q+1)=some q:=by
     have h2:(q:Int)<=((q+1:Nat):Int):=by omega
     simp [R2];omega
    simp [Yv,this]
   have hsub:ze (bn (aA b (L.take (q+1)))) 0 q=bn (aA b (L.take q)):=by
    rw [stepsV_take hx]
    simp only [ze,List.map_append]
    rw [List.drop_zero,Nat.sub_zero,List.take_append_of_le_length (by simp [hsl0]),List.take_of_length_le (by simp [hsl0])]
   have hundo:=Ay (l:=allV b (L.take (q+1))) (by omega) (jR (allV b (L.take q)) x)
   have hback:ud (allV b (L.take (q+1))) (jR (allV b (L.take q)) x)=allV b (L.take q):=by rw [allV_take hx];exact TF _ _
   rw [hback] at hundo
   have happ:lY 6 56 (az (L.drop (q+1)).reverse) (.lst [[.int .i64 x.c,.int .i64 x.r,.int .i64 x.par,.int .i64 x.ch,.str x.nm,.flt .f64 x.rk]])=some (az ((L.drop (q+1)).reverse++[x])):=FB (l:=(L.drop (q+1)).reverse) (k:=[x]) (by simp;omega) (by simp)
   have hdr:(L.drop (q+1)).reverse++[x]=(L.drop q).reverse:=by
    have:L.drop q=x::L.drop (q+1):=by
     rw [<-List.getElem_cons_drop hql]
     congr 1
     have:=List.getElem?_eq_getElem hql
     rw [hx] at this;exact (Option.some.inj this).symm
    rw [this];simp
   rw [hdr] at happ
   have hmv:=Pd (allV b (L.take q)) x
   have hstep:ei w (.int .i64 m.c) (.int .i64 m.r) (.int .i64 m.par) (.int .i64 m.ch) (.str m.nm) (.flt .f64 m.rk) [ar b,ar (allV b (L.take (q+1))),bn (aA b (L.take (q+1))),az (L.drop (q+1)).reverse]=
     some (.next [ar b,ar (allV b (L.take q)),bn (aA b (L.take q)),az (L.drop q).reverse]):=by
    unfold ei
    simp only [ag,aC,bV,bw,eJ,eF,BF,sd,hw,hll,h5,hge,aj,Option.bind_some,hix,WD hsq]
    generalize jR (allV b (L.take q)) x=s at*
    subst hmv
    simp only [AI,nth,List.getD_cons_zero,List.getD_cons_succ,Option.bind_some,hundo,hb3,happ,hsub]
   simp only [iter,hstep,Option.bind_some]
   exact ih q (by omega) (by omega) n (by omega)
theorem replay_Add_eq {b:List Rw} {L:List Mv} {m:Mv} (hob:OKl b) (hom: ∀x∈L,OKm x) (hm:OKm m) (hn:b.length+L.length < 2 ^ 14):
  eY (ar b) (ar (allV b L)) (bn (aA b L)) (.int .i64 m.c) (.int .i64 m.r) (.int .i64 m.par) (.int .i64 m.ch) (.str m.nm) (.flt .f64 m.rk)=
   some [ar b,ar (allV b (cW L m)),bn (aA b (cW L m)),.int .i64 (if EW L m=true then (L.length:Int) - R1 L m else 0),.bool (EW L m)]:=by
 have hsl:(aA b L).length=L.length:=dP _ _
 have hlog:=replay_Log_eq (b:=b) (l:=allV b L) (ss:=aA b L) (by omega)
 rw [Dc] at hlog
 have hins:=og (l:=L) (by omega) m
 have hnot: ∀x:Bool,rI .not (.bool x)=some (.bool !x):=fun x=>rfl
 unfold eY
 have hlog':bT (.ptr [ar b,ar (allV b L),bn (aA b L)] 0)=some [az L]:=hlog
 simp only [hlog',Option.bind_some,ag,hins,bV,hnot]
 cases hnew:EW L m with
 | false=>
   have hi:cW L m=L:=by
    unfold EW at hnew
    unfold cW
    rw [if_pos (by simpa using hnew)]
   simp only [Bool.not_false,aj,hi]
   rfl
 | true=>
   have hany:L.any (UT m.c m.r)=false:=by unfold EW at hnew;simpa using hnew
   have hi:cW L m=L.take (R1 L m)++m::L.drop (R1 L m):=by
    unfold cW
    rw [hany]
    simp
   have hpos:Wh L m=R1 L m:=by
    unfold Wh
    have:L.findIdx? (UT m.c m.r)=none:=by
     rw [List.findIdx?_eq_none_iff]
     intro x hx
     have:=List.any_eq_false.1 hany x hx
     simpa using this
    rw [this]
   have hloop:=add_loop (b:=b) (L:=L) (m:=m) hob hom hm hn (Mf L m) [az (cW L m),.int .i64 (Wh L m:Int),.bool true] (by rw [hpos];rfl) (L.length - R1 L m) L.length (by have:=Mf L m;omega) (Nat.le_refl _) rounds (by have:=bc;omega)
   rw [List.take_length,List.drop_length] at hloop
   simp only [Bool.not_true,aF]
   rw [show (IV.lst [])=az ([]:List Mv).reverse from rfl,hloop,<-hi]
   rfl
end Go.AM
namespace Go.AM
theorem foldIns_length: ∀(ms:List Mv) (s:List Mv),(ms.foldl cW s).length<=s.length+ms.length
 | [],s=>by simp
 | m::ms,s=>by
   have h1:=foldIns_length ms (cW s m)
   have h2:=lj s m
   simp only [List.foldl_cons,List.length_cons];omega
end Go.AM
namespace Go.AM
end Go.AM
namespace Go.AM
theorem uniV_sorted0 (ms:List Mv):mA (uniV [] ms):=Ea List.Pairwise.nil
theorem uniV_len0 (ms:List Mv):(uniV [] ms).length<=ms.length:=by have:=D3 ms [];simpa using this
theorem uniV_okm {ms:List Mv} (h: ∀x∈ms,OKm x): ∀x∈uniV [] ms,OKm x:=fun x hx=>by
 rcases Ry hx with hx | hx
 ·simp at hx
 ·exact h x hx
theorem insV_okm' {l:List Mv} {m:Mv} (h: ∀x∈l,OKm x) (hm:OKm m): ∀x∈cW l m,OKm x:=fun x hx=>by
 rcases rQ hx with rfl | hx
 ·exact hm
 ·exact h x hx
theorem mayR_allV {ms:List Mv}: ∀{l:List Rw},mayR l=true->(∀m∈ms,oneV m=true)->l.length+ms.length<=2000->mayR (allV l ms)=true:=by
 induction ms with
 | nil=>intro l h _ _;exact h
 | cons m ms ih=>
   intro l h ho hl
   simp only [List.length_cons] at hl
   have hd:mayR (yN l m)=true:=by
    cases hb:xQ l m with
    | true=>rw [Yq hb];exact h
    | false=>exact XF h (ho m List.mem_cons_self) hb (by omega)
   have h2:=p9 l m
   exact ih hd (fun x hx=>ho x (List.mem_cons_of_mem _ hx)) (by omega)
theorem count_behind {l:List Mv} (hs:mA l) (m:Mv):(l.filter fun x=>befB m.c m.r x.c x.r).length=l.length - R1 l m:=by
 have hp: ∀(k:List Mv),mA k-> ∀x,k.head?=some x->befB m.c m.r x.c x.r=true->(k.filter fun x=>befB m.c m.r x.c x.r)=k:=by
  intro k hk x hx hb
  rw [List.filter_eq_self]
  intro y hy
  cases k with
  | nil=>simp at hx
  | cons z k=>
    simp at hx;subst hx
    rcases List.mem_cons.1 hy with rfl | hy
    ·exact hb
    ·have:=(List.pairwise_cons.1 hk).1 y hy
     rw [Ic] at this
     rw [Qj] at hb ⊢
     omega
 unfold R1
 induction l with
 | nil=>rfl
 | cons y l ih=>
   obtain ⟨_,h2⟩:=List.pairwise_cons.1 hs
   by_cases hb:befB m.c m.r y.c y.r=true
   ·rw [hp (y::l) hs y rfl hb]
    simp [List.findIdx?_cons,hb]
   ·rw [List.filter_cons_of_neg (by simpa using hb),ih h2,List.findIdx?_cons]
    simp only [hb,if_false,Bool.false_eq_true]
    cases l.findIdx? fun x=>befB m.c m.r x.c x.r with
    | none=>simp
    | some i=>simp
end Go.AM
namespace Go.AM
theorem findIdx_key (c:Int): ∀{l k:List Rw},l.map cX=k.map cX->l.findIdx? (od c)=k.findIdx? (od c)
 | [],[],_=>rfl
 | [],_::_,h=>by simp at h
 | _::_,[],h=>by simp at h
 | x::l,y::k,h=>by
   simp only [List.map_cons,List.cons.injEq] at h
   have h1:x.ch=y.ch:=congrArg Prod.fst h.1
   have e:od c x=od c y:=by unfold od;rw [h1]
   simp only [List.findIdx?_cons,e,findIdx_key c h.2]
theorem atR_key (c:Int): ∀{l k:List Rw},l.map cX=k.map cX->atR l c=atR k c:=by
 have key: ∀{l k:List Rw},l.map cX=k.map cX->(l.findIdx? fun x=>decide (c < x.ch))=k.findIdx? fun x=>decide (c < x.ch):=by
  intro l
  induction l with
  | nil=>intro k h;cases k with | nil=>rfl | cons _ _=>simp at h
  | cons x l ih=>
    intro k h
    cases k with
    | nil=>simp at h
    | cons y k=>
      simp only [List.map_cons,List.cons.injEq] at h
      have h1:x.ch=y.ch:=congrArg Prod.fst h.1
      simp only [List.findIdx?_cons,h1,ih h.2]
 intro l k h
 have hl:l.length=k.length:=by simpa using congrArg List.length h
 unfold atR
 rw [key h,hl]
theorem prR_key {l k:List Rw} (h:l.map cX=k.map cX):l.map Fb=k.map Fb:=by
 have: ∀l:List Rw,l.map Fb=(l.map cX).map fun q=>(q.1,q.2.1):=fun l=>by rw [List.map_map];rfl
 rw [this l,this k,h]
theorem setR_key {l k:List Rw} {r s:Rw} (h:l.map cX=k.map cX) (hr:cX r=cX s):(kj l r).map cX=(kj k s).map cX:=by
 have h1:r.ch=s.ch:=congrArg Prod.fst hr
 unfold kj
 rw [<-h1,findIdx_key r.ch h,atR_key r.ch h]
 cases k.findIdx? (od r.ch) with
 | some i=>simp only [List.map_set,h,hr]
 | none=>simp only [List.map_append,List.map_take,List.map_drop,h,List.map_cons,List.map_nil,hr]
theorem findR_key (c:Int): ∀{l k:List Rw},l.map cX=k.map cX->(fV l c).map cX=(fV k c).map cX
 | [],[],_=>rfl
 | [],_::_,h=>by simp at h
 | _::_,[],h=>by simp at h
 | x::l,y::k,h=>by
   simp only [List.map_cons,List.cons.injEq] at h
   have h1:x.ch=y.ch:=congrArg Prod.fst h.1
   have ih:=findR_key c h.2
   unfold fV at ih ⊢
   simp only [List.find?_cons,od,h1]
   cases decide (y.ch=c) with
   | true=>simp [h.1]
   | false=>exact ih
theorem keyV_row {m n:Mv} (h:l8 m=l8 n):cX (rowOf m)=cX (rowOf n):=by
 simp only [l8,Key.mk.injEq] at h
 simp only [cX,rowOf,h.2.2.1,h.2.2.2.1,h.2.2.2.2.1,h.2.2.2.2.2]
theorem barV_key {l k:List Rw} {m n:Mv} (h:l.map cX=k.map cX) (hm:l8 m=l8 n):xQ l m=xQ k n:=by
 simp only [l8,Key.mk.injEq] at hm
 have hl:l.length=k.length:=by simpa using congrArg List.length h
 unfold xQ td OU
 rw [prR_key h,hl,hm.2.2.1,hm.2.2.2.1]
theorem doV_key {l k:List Rw} {m n:Mv} (h:l.map cX=k.map cX) (hm:l8 m=l8 n):(yN l m).map cX=(yN k n).map cX:=by
 unfold yN
 rw [barV_key h hm]
 split
 ·exact h
 ·exact setR_key h (keyV_row hm)
theorem stepV_key {l k:List Rw} {m n:Mv} (h:l.map cX=k.map cX) (hm:l8 m=l8 n):S5 (jR l m)=S5 (jR k n):=by
 have hc:m.ch=n.ch:=by simp only [l8,Key.mk.injEq] at hm;exact hm.2.2.1
 have hf:=findR_key m.ch h
 unfold jR
 rw [barV_key h hm,<-hc]
 split
 ·simp [S5,X5,hm]
 ·cases h1:fV l m.ch with
  | none=>
    cases h2:fV k m.ch with
    | none=>simp [S5,X5,hm]
    | some y=>rw [h1,h2] at hf;cases hf
  | some x=>
    cases h2:fV k m.ch with
    | none=>rw [h1,h2] at hf;cases hf
    | some y=>
      rw [h1,h2] at hf
      have:cX x=cX y:=Option.some.inj hf
      simp [S5,X5,hm,this]
theorem allV_key: ∀{ms ns:List Mv} {l k:List Rw},l.map cX=k.map cX->ms.map l8=ns.map l8->(allV l ms).map cX=(allV k ns).map cX/\(aA l ms).map S5=(aA k ns).map S5
 | [],[],l,k,h,_=>⟨h,rfl⟩
 | [],_::_,_,_,_,h=>by simp at h
 | _::_,[],_,_,_,h=>by simp at h
 | m::ms,n::ns,l,k,h,hm=>by
   simp only [List.map_cons,List.cons.injEq] at hm
   obtain ⟨h1,h2⟩:=allV_key (doV_key h hm.1) hm.2
   refine ⟨h1,?_⟩
   simp only [aA,List.map_cons,stepV_key h hm.1,h2]
def placeP (l:List Mv) (s:List Mv) (p:Int):List Mv:=if 0<=p then (match l[p.toNat]? with | some m=>s++[m] | none=>s) else s
theorem placeP_len (l s:List Mv) (p:Int):(placeP l s p).length<=s.length+1:=by
 unfold placeP
 split
 ·split<;>simp
 ·simp
theorem places_mem (l:List Mv): ∀(ps:List Int) (s:List Mv),(∀m∈s,m∈l)->(∀m∈ps.foldl (placeP l) s,m∈l)/\(ps.foldl (placeP l) s).length<=s.length+ps.length
 | [],s,h=>⟨h,by simp⟩
 | p::ps,s,h=>by
   have h1: ∀m∈placeP l s p,m∈l:=fun m hm=>by
    unfold placeP at hm
    split at hm
    ·split at hm
     ·rename_i x hx
      rcases List.mem_append.1 hm with hm | hm
      ·exact h m hm
      ·rw [List.mem_singleton.1 hm];exact List.mem_of_getElem? hx
     ·exact h m hm
    ·exact h m hm
   obtain ⟨a,b⟩:=places_mem l ps (placeP l s p) h1
   have:=placeP_len l s p
   exact ⟨a,by simp only [List.foldl_cons,List.length_cons];omega⟩
end Go.AM
