import Derived.Test.YtmcbljjgkmkhcaaGreatDoorK4
set_option linter.unusedSimpArgs false
set_option linter.unusedVariables false
namespace Go.Proofs.YtmcbljjgkmkhcaaGreatDoor
open Go.RowKit Ax
noncomputable def tr_rtext (x:Els [(true,cF)]):T Av:=
 .ite (!okF (x.1))
  (.ret (.one (.v (.string ({ data := #[] })))))
  (.ite (decide (zW x.1.2=(1:Int)))
   (.ret (.one (.v (.string (txt x.1.1)))))
   (.need ((↑(ByteArray.size (txt x.1.1)+ByteArray.size { data := #[(47:UInt8)] }):Int)≤IntKind.max .i64) (.lt (txt x.1.1++{ data := #[(47:UInt8)] }) (fun v0 =>
     .need ((↑(ByteArray.size v0+ByteArray.size (txt x.1.2)):Int)≤IntKind.max .i64) (.lt (v0++txt x.1.2) (fun v1 =>
       .ret (.one (.v (.string (v1))))))))))
theorem tr_rtext_eq (x:Els [(true,cF)]):fnP E10 (fun _=>none) Tryz.f47 (encs [(true,cF)] x)=tr_rtext x:=by kernel_rfl
def ftxt (x:F):ByteArray:=if okF x=true then (if zW x.2=1 then txt x.1 else txt x.1++⟨#[47]⟩++txt x.2) else ⟨#[]⟩
theorem bytesOf_size (l:List Int):(bytesOf l).size=l.length:=by
  show (bytesOf l).data.size=_
  simp[bytesOf]
theorem txt_size (x:W):(txt x).size≤1025:=by
  have:=dg_amt x.2
  unfold txt
  split
  · show 1≤1025;omega
  · rw[bytesOf_size,List.length_reverse,List.length_append]
    split <;> simp <;> omega
theorem rtext_ok (x:Els [(true,cF)]):(tr_rtext x).wp (· = .one (.v (.string (ftxt x.1)))):=by
  obtain ⟨x,u⟩:=x
  revert x
  intro (x:F)
  unfold tr_rtext
  simp only[T.wp]
  unfold ftxt
  have h1:=txt_size x.1
  have h2:=txt_size x.2
  refine ⟨fun h=>?_,fun h=>⟨fun hd=>?_,fun hd=>⟨?_,?_,?_⟩⟩⟩
  · rw[if_neg (by simpa using h)]
  · rw[if_pos (by simpa using h),if_pos (of_decide_eq_true hd)]
  · have:(ByteArray.size ⟨#[(47:UInt8)]⟩)=1:=rfl
    rw[this]
    show ((_:Nat):Int)≤9223372036854775807
    omega
  · have:(ByteArray.size ⟨#[(47:UInt8)]⟩)=1:=rfl
    rw[ByteArray.size_append,this]
    show ((_:Nat):Int)≤9223372036854775807
    omega
  · rw[if_pos (by simpa using h),if_neg (of_decide_eq_false hd)]
noncomputable def con_rtext:Con Tryz.prog:=⟨47,[],_,cf_rtext,tot_con (E:=E10) mixed Tryz.func47 no_loops [(true,cF)] (fun x=>.one (.v (.string (ftxt x.1)))) fun x=>by rw[tr_rtext_eq];exact rtext_ok x⟩
noncomputable def E11:Env Tryz.prog:=⟨con_rtext::E10.con,E10.zero,E10.cod,E10.sure,E10.base,E10.frz⟩
abbrev spScale:LSpec:=⟨14,[(6,false,.int .i64),(7,false,.int .i64)],[(2,0,0),(3,1,0),(4,2,0)],[(27,cW),(27,cW),(4,.bool)],fun _=>[]⟩
abbrev spPar:LSpec:=⟨89,[(4,false,.str),(5,false,.bool),(44,false,.int .i64),(45,false,.int .i64)],[(2,0,0),(6,1,0),(7,2,0)],[(27,cW),(27,cW),(27,cW)],fun e=>match e with|.ret=>[3]|.exit _=>[5]|_=>[]⟩
noncomputable def tr_scaleL (x:LSpec.X spScale×LSpec.Y spScale):T (Rd spScale):=
 .ite (decide (x.1.2.1<x.1.1))
  (dup (.need (in64 (10:Int)) (.lt (zW x.2.2.1*zW (wOf (10:Int))) (fun v0 =>
     .ret (.again (x.1.1,(IntKind.wrap .i64 (x.1.2.1+(1:Int)),())) (x.2.1,(wOf v0,(x.2.2.2.1&&Pq.fits v0,()))))))))
  (.ret (.out (Go.Exit.exit (0:Nat)) [] (x.2.1,(x.2.2.1,(x.2.2.2.1,())))))
theorem tr_scaleL_eq (x:LSpec.X spScale×LSpec.Y spScale):LSpec.round spScale E11 (fun _=>none) (bodyOf Tryz.f71 0) x.1 x.2=tr_scaleL x:=by kernel_rfl
noncomputable def tr_parL (x:LSpec.X spPar×LSpec.Y spPar):T (Rd spPar):=
 .ite (decide (x.1.2.2.2.1<x.1.2.2.1))
  (.get (Array.toList (ByteArray.data x.1.1)) x.1.2.2.2.1 (fun v0 =>
   .ite (decide ((↑(UInt8.toNat v0):Int)<(48:Int)))
    (.ret (.out (Go.Exit.ret) [(.one (.v (.bool (false))))] (w0,(x.2.2.1,(x.2.2.2.1,())))))
    (.get (Array.toList (ByteArray.data x.1.1)) x.1.2.2.2.1 (fun v1 =>
     .ite (decide ((↑(UInt8.toNat v1):Int)>(57:Int)))
      (.ret (.out (Go.Exit.ret) [(.one (.v (.bool (false))))] (w0,(x.2.2.1,(x.2.2.2.1,())))))
      (.lt (zW x.2.2.1*zW x.2.2.2.1) (fun v2 =>
       .get (Array.toList (ByteArray.data x.1.1)) x.1.2.2.2.1 (fun v3 =>
        .need (in64 (IntKind.wrap .i64 (IntKind.wrap .u8 ((↑(UInt8.toNat v3):Int)-(48:Int))))) (.lt (zW (wOf v2)+zW (wOf (IntKind.wrap .i64 (IntKind.wrap .u8 ((↑(UInt8.toNat v3):Int)-(48:Int)))))) (fun v4 =>
          .ite (!Pq.fits v2)
           (.ret (.out (Go.Exit.ret) [(.one (.v (.bool (false))))] (w0,(x.2.2.1,(x.2.2.2.1,())))))
           (.ite (!Pq.fits v4)
            (.ret (.out (Go.Exit.ret) [(.one (.v (.bool (false))))] (w0,(x.2.2.1,(x.2.2.2.1,())))))
            (.ret (.again (x.1.1,(x.1.2.1,(x.1.2.2.1,(IntKind.wrap .i64 (x.1.2.2.2.1+(1:Int)),())))) (x.2.1,(wOf v4,(x.2.2.2.1,())))))))))))))))
  (.ret (.out (Go.Exit.exit (0:Nat)) [(.one (.v (.bool x.1.2.1)))] (x.2.1,(x.2.2.1,(x.2.2.2.1,())))))
theorem tr_parL_eq (x:LSpec.X spPar×LSpec.Y spPar):LSpec.round spPar E11 (fun _=>none) (bodyOf Tryz.f138 0) x.1 x.2=tr_parL x:=by kernel_rfl
theorem pow10_lt {k:Nat} (h:k≤40):((10:Int)^k).natAbs<Pq.bp 32:=by
  rw[Int.natAbs_pow]
  refine Nat.lt_of_le_of_lt (Nat.pow_le_pow_right (by decide) h) ?_
  decide +kernel
def outScale (x:LSpec.X spScale) (y:LSpec.Y spScale):T (Exit×List Av×LSpec.Y spScale):=
  .need (0≤x.2.1∧x.2.1≤x.1∧x.1≤20∧y.2.1=wOf (10^x.2.1.toNat)) (.ret (.exit 0,[],(y.1,wOf (10^x.1.toNat),y.2.2.1,())))
theorem scaleL_core (n i : Int) (r v : W) (b : Bool) (Q : Exit × List Av × LSpec.Y spScale → Prop) (h : (outScale (n, i, ()) (r, v, b, ())).wp Q) : (tr_scaleL ((n, i, ()), (r, v, b, ()))).wp fun r => match r with
      | .again x' y'=>(x'.1-x'.2.1).toNat<(n-i).toNat∧(outScale x' y').wp Q
      | .out e avs y'=>Q (e,avs,y'):=by
  unfold tr_scaleL
  unfold outScale at h ⊢
  simp only[T.wp,dup_wp]at h ⊢
  dsimp only [El,vts,bts,spScale]at h ⊢
  obtain ⟨⟨h0,h1,h2,hv⟩,hq⟩:=h
  refine ⟨fun hlt=>?_,fun hge=>?_⟩
  · have hlt:=of_decide_eq_true hlt
    have e:zW v*zW (wOf 10)=10^(i+1).toNat:=by
      rw[hv,zW_wOf (pow10_lt (by omega)),show wOf 10=wOf (10^1) from rfl,zW_wOf (pow10_lt (k:=1) (by omega)),show (i+1).toNat=i.toNat+1 from by omega,Int.pow_succ];rfl
    have hf:Pq.fits (10^(i+1).toNat)=true:=by
      unfold Pq.fits
      exact decide_eq_true (pow10_lt (by omega))
    rw[e,hf,Bool.and_true,IntWalk.i64_in _ (by omega)]
    exact ⟨⟨by omega,by omega⟩,by omega,⟨by omega,by omega,h2,rfl⟩,hq⟩
  · have hge:=of_decide_eq_false hge
    obtain rfl:i=n:=by omega
    rw[←hv]at hq
    exact hq
theorem scaleL_ok:LoopOk Tryz.prog 0 (bodyOf Tryz.f71 0) (spScale.run outScale):=
  loop_ok (E:=E11) (L:=fun _=>none) mixed 0 (loops_none _ _ _) spScale (Nat.zero_le _) outScale (fun x _=>(x.1-x.2.1).toNat) (by
    rintro ⟨n,i,⟨⟩⟩ ⟨r,v,b,⟨⟩⟩ Q h
    rw[tr_scaleL_eq ((n,i,()),(r,v,b,()))]
    exact scaleL_core n i r v b Q h)
noncomputable def lpScale:Loops:=oneL 3 (spScale.run outScale)
def parD:Int→List UInt8→Bool×Int
  | v,[]=>(true,v)
  | v,b::r=>if (b.toNat:Int)<48∨(b.toNat:Int)>57 then (false,v) else if Pq.fits (v*10)=true∧Pq.fits (v*10+((b.toNat:Int)-48))=true then parD (v*10+((b.toNat:Int)-48)) r else (false,v)
def outPar (x:LSpec.X spPar) (y:LSpec.Y spPar):T (Exit×List Av×LSpec.Y spPar):=
  .need (x.2.2.1=x.1.data.toList.length∧0≤x.2.2.2.1∧x.2.2.2.1≤x.2.2.1∧x.2.2.1≤1000∧zW y.2.2.1=10∧wOf (zW y.2.1)=y.2.1) (.lt (parD (zW y.2.1) (x.1.data.toList.drop x.2.2.2.1.toNat)) fun r =>
    .ite r.1 (.ret (.exit 0,[aB x.2.1],(y.1,wOf r.2,y.2.2.1,()))) (.ret (.ret,[aB false],(w0,wOf r.2,y.2.2.1,()))))
theorem parL_core (s : ByteArray) (ng : Bool) (n i : Int) (r v t : W) (Q : Exit × List Av × LSpec.Y spPar → Prop) (h : (outPar (s, ng, n, i, ()) (r, v, t, ())).wp Q) : (tr_parL ((s, ng, n, i, ()), (r, v, t, ()))).wp fun r => match r with
      | .again x' y'=>(x'.2.2.1-x'.2.2.2.1).toNat<(n-i).toNat∧(outPar x' y').wp Q
      | .out e avs y'=>Q (e,avs,y'):=by
  unfold tr_parL
  unfold outPar at h ⊢
  simp only[T.wp]at h ⊢
  dsimp only [El,vts,bts,spPar]at h ⊢
  generalize s.data.toList=l at *
  obtain ⟨⟨hn,h0,h1,hl,ht,hw⟩,hq1,hq2⟩:=h
  refine ⟨fun hlt=>?_,fun hge=>?_⟩
  · have hlt:=of_decide_eq_true hlt
    obtain ⟨b,hb⟩:=elem_at (l:=l) (i:=i) h0 (by omega)
    have hd:=drop_at h0 hb
    have hb8:=b.toNat_lt
    rw[hd,parD]at hq1 hq2
    refine ⟨b,h0,hb,fun c1=>?_,fun c1=>⟨b,h0,hb,fun c2=>?_,fun c2=>?_⟩⟩
    · rw[if_pos (.inl (of_decide_eq_true c1))]at hq2
      rw[hw]at hq2
      exact hq2 rfl
    · rw[if_pos (.inr (of_decide_eq_true c2))]at hq2
      rw[hw]at hq2
      exact hq2 rfl
    · have c1:=of_decide_eq_false c1
      have c2:=of_decide_eq_false c2
      rw[if_neg (by omega)]at hq1 hq2
      have e1:IntKind.i64.wrap (IntKind.u8.wrap ((b.toNat:Int)-48))=(b.toNat:Int)-48:=by
        rw[IntWalk.u8_in _ (by omega),IntWalk.i64_in _ (by omega)]
      have hz:zW (wOf ((b.toNat:Int)-48))=(b.toNat:Int)-48:=zW_wOf (i64_lt (by omega) (by omega))
      refine ⟨b,h0,hb,?_⟩
      rw[e1,ht,hz]
      refine ⟨⟨by omega,by omega⟩,fun f1=>?_,fun f1=>?_⟩
      · have f1:Pq.fits (zW v*10)=false:=by simpa using f1
        rw[if_neg (by rw[f1];simp)]at hq2
        rw[hw]at hq2
        exact hq2 rfl
      · have f1:Pq.fits (zW v*10)=true:=by simpa using f1
        have e2:zW (wOf (zW v*10))=zW v*10:=zW_wOf (by unfold Pq.fits at f1;exact of_decide_eq_true f1)
        rw[e2]
        refine ⟨fun f2=>?_,fun f2=>?_⟩
        · have f2:Pq.fits (zW v*10+((b.toNat:Int)-48))=false:=by simpa using f2
          rw[if_neg (by rw[f2];simp)]at hq2
          rw[hw]at hq2
          exact hq2 rfl
        · have f2:Pq.fits (zW v*10+((b.toNat:Int)-48))=true:=by simpa using f2
          rw[if_pos ⟨f1,f2⟩]at hq1 hq2
          have e3:zW (wOf (zW v*10+((b.toNat:Int)-48)))=zW v*10+((b.toNat:Int)-48):=zW_wOf (by unfold Pq.fits at f2;exact of_decide_eq_true f2)
          rw[IntWalk.i64_in (i+1) (by omega),e3]
          exact ⟨by omega,⟨hn,by omega,by omega,hl,rfl,rfl⟩,hq1,hq2⟩
  · have hge:=of_decide_eq_false hge
    rw[drop_end (by omega),parD]at hq1
    have:=hq1 rfl
    rw[hw]at this
    exact this
theorem parL_ok:LoopOk Tryz.prog 0 (bodyOf Tryz.f138 0) (spPar.run outPar):=
  loop_ok (E:=E11) (L:=fun _=>none) mixed 0 (loops_none _ _ _) spPar (Nat.zero_le _) outPar (fun x _=>(x.2.2.1-x.2.2.2.1).toNat) (by
    rintro ⟨s,ng,n,i,⟨⟩⟩ ⟨r,v,t,⟨⟩⟩ Q h
    rw[tr_parL_eq ((s,ng,n,i,()),(r,v,t,()))]
    exact parL_core s ng n i r v t Q h)
noncomputable def lpPar:Loops:=oneL 9 (spPar.run outPar)
noncomputable def tr_rscale (x:Els [(false,.int .i64)]):T Av:=
 .need ((0:El (Cd.int .i64))≤(0:Int)∧(0:Int)≤x.1∧x.1≤(20:El (Cd.int .i64))∧wOf (1:Int)=wOf ((10:Int)^Int.toNat (0:Int))) (.ret (.agg [.v (.bool (wOf ((10:Int)^Int.toNat (x.1))).1),.w (wOf ((10:Int)^Int.toNat (x.1))).2]))
theorem tr_rscale_eq (x:Els [(false,.int .i64)]):fnP E11 lpScale Tryz.f71 (encs [(false,.int .i64)] x)=tr_rscale x:=by kernel_rfl
noncomputable def tr_wparse (x:Els [(false,.str)]):T Av:=
 .ite (!ByteArray.toList (x.1)==ByteArray.toList { data := #[] })
  (.get (Array.toList (ByteArray.data (x.1))) ((0:Int)) (fun v0 =>
   .ite ((↑(UInt8.toNat v0):Int)==(45:Int))
    (.need ((0:Int)≤(1:Int)∧(1:Int)≤(↑(ByteArray.size (x.1)):Int)∧(↑(ByteArray.size (x.1)):Int)≤(↑(ByteArray.size (x.1)):Int)) (.lt (ByteArray.extract (x.1) (Int.toNat (1:Int)) (Int.toNat (↑(ByteArray.size (x.1)):Int))) (fun v1 =>
      .ite (decide ((↑(ByteArray.size (x.1)):Int)>(400:Int)))
       (.ret (.tup [(.agg [.v (.bool w0.1),.w w0.2]),(.one (.v (.bool (false))))]))
       (.ite (ByteArray.toList v1==ByteArray.toList { data := #[] })
        (.ret (.tup [(.agg [.v (.bool w0.1),.w w0.2]),(.one (.v (.bool (false))))]))
        (.get (Array.toList (ByteArray.data v1)) ((0:Int)) (fun v2 =>
         .ite ((↑(UInt8.toNat v2):Int)==(48:Int))
          (.ite (!ByteArray.toList (x.1)==ByteArray.toList { data := #[(48:UInt8)] })
           (.ret (.tup [(.agg [.v (.bool w0.1),.w w0.2]),(.one (.v (.bool (false))))]))
           (.need (in64 (10:Int)) (.need ((↑(ByteArray.size v1):Int)=(↑(List.length (Array.toList (ByteArray.data v1))):El (Cd.int .i64))∧(0:El (Cd.int .i64))≤(0:Int)∧(0:Int)≤(↑(ByteArray.size v1):Int)∧(↑(ByteArray.size v1):Int)≤(1000:El (Cd.int .i64))∧zW (wOf (10:Int))=(10:Int)∧wOf (zW w0)=w0) (.lt (parD (zW w0) (List.drop (Int.toNat (0:Int)) (Array.toList (ByteArray.data v1)))) (fun v3 =>
              .ite v3.1
               (.ite ((↑(UInt8.toNat v0):Int)==(45:Int))
                (.lt (-zW (wOf v3.2)) (fun v4 =>
                 .ret (.tup [(.agg [.v (.bool (wOf v4).1),.w (wOf v4).2]),(.one (.v (.bool (true))))])))
                (.ret (.tup [(.agg [.v (.bool (wOf v3.2).1),.w (wOf v3.2).2]),(.one (.v (.bool (true))))])))
               (.ret (.tup [(.agg [.v (.bool w0.1),.w w0.2]),(.one (.v (.bool (false))))])))))))
          (.need (in64 (10:Int)) (.need ((↑(ByteArray.size v1):Int)=(↑(List.length (Array.toList (ByteArray.data v1))):El (Cd.int .i64))∧(0:El (Cd.int .i64))≤(0:Int)∧(0:Int)≤(↑(ByteArray.size v1):Int)∧(↑(ByteArray.size v1):Int)≤(1000:El (Cd.int .i64))∧zW (wOf (10:Int))=(10:Int)∧wOf (zW w0)=w0) (.lt (parD (zW w0) (List.drop (Int.toNat (0:Int)) (Array.toList (ByteArray.data v1)))) (fun v3 =>
             .ite v3.1
              (.ite ((↑(UInt8.toNat v0):Int)==(45:Int))
               (.lt (-zW (wOf v3.2)) (fun v4 =>
                .ret (.tup [(.agg [.v (.bool (wOf v4).1),.w (wOf v4).2]),(.one (.v (.bool (true))))])))
               (.ret (.tup [(.agg [.v (.bool (wOf v3.2).1),.w (wOf v3.2).2]),(.one (.v (.bool (true))))])))
              (.ret (.tup [(.agg [.v (.bool w0.1),.w w0.2]),(.one (.v (.bool (false))))]))))))))))))
    (.ite (decide ((↑(ByteArray.size (x.1)):Int)>(400:Int)))
     (.ret (.tup [(.agg [.v (.bool w0.1),.w w0.2]),(.one (.v (.bool (false))))]))
     (.ite (ByteArray.toList (x.1)==ByteArray.toList { data := #[] })
      (.ret (.tup [(.agg [.v (.bool w0.1),.w w0.2]),(.one (.v (.bool (false))))]))
      (.get (Array.toList (ByteArray.data (x.1))) ((0:Int)) (fun v1 =>
       .ite ((↑(UInt8.toNat v1):Int)==(48:Int))
        (.ite (!ByteArray.toList (x.1)==ByteArray.toList { data := #[(48:UInt8)] })
         (.ret (.tup [(.agg [.v (.bool w0.1),.w w0.2]),(.one (.v (.bool (false))))]))
         (.need (in64 (10:Int)) (.need ((↑(ByteArray.size (x.1)):Int)=(↑(List.length (Array.toList (ByteArray.data (x.1)))):El (Cd.int .i64))∧(0:El (Cd.int .i64))≤(0:Int)∧(0:Int)≤(↑(ByteArray.size (x.1)):Int)∧(↑(ByteArray.size (x.1)):Int)≤(1000:El (Cd.int .i64))∧zW (wOf (10:Int))=(10:Int)∧wOf (zW w0)=w0) (.lt (parD (zW w0) (List.drop (Int.toNat (0:Int)) (Array.toList (ByteArray.data (x.1))))) (fun v2 =>
            .ite v2.1
             (.ite ((↑(UInt8.toNat v0):Int)==(45:Int))
              (.lt (-zW (wOf v2.2)) (fun v3 =>
               .ret (.tup [(.agg [.v (.bool (wOf v3).1),.w (wOf v3).2]),(.one (.v (.bool (true))))])))
              (.ret (.tup [(.agg [.v (.bool (wOf v2.2).1),.w (wOf v2.2).2]),(.one (.v (.bool (true))))])))
             (.ret (.tup [(.agg [.v (.bool w0.1),.w w0.2]),(.one (.v (.bool (false))))])))))))
        (.need (in64 (10:Int)) (.need ((↑(ByteArray.size (x.1)):Int)=(↑(List.length (Array.toList (ByteArray.data (x.1)))):El (Cd.int .i64))∧(0:El (Cd.int .i64))≤(0:Int)∧(0:Int)≤(↑(ByteArray.size (x.1)):Int)∧(↑(ByteArray.size (x.1)):Int)≤(1000:El (Cd.int .i64))∧zW (wOf (10:Int))=(10:Int)∧wOf (zW w0)=w0) (.lt (parD (zW w0) (List.drop (Int.toNat (0:Int)) (Array.toList (ByteArray.data (x.1))))) (fun v2 =>
           .ite v2.1
            (.ite ((↑(UInt8.toNat v0):Int)==(45:Int))
             (.lt (-zW (wOf v2.2)) (fun v3 =>
              .ret (.tup [(.agg [.v (.bool (wOf v3).1),.w (wOf v3).2]),(.one (.v (.bool (true))))])))
             (.ret (.tup [(.agg [.v (.bool (wOf v2.2).1),.w (wOf v2.2).2]),(.one (.v (.bool (true))))])))
            (.ret (.tup [(.agg [.v (.bool w0.1),.w w0.2]),(.one (.v (.bool (false))))]))))))))))))
  (.ite (decide ((↑(ByteArray.size (x.1)):Int)>(400:Int)))
   (.ret (.tup [(.agg [.v (.bool w0.1),.w w0.2]),(.one (.v (.bool (false))))]))
   (.ite (ByteArray.toList (x.1)==ByteArray.toList { data := #[] })
    (.ret (.tup [(.agg [.v (.bool w0.1),.w w0.2]),(.one (.v (.bool (false))))]))
    (.get (Array.toList (ByteArray.data (x.1))) ((0:Int)) (fun v0 =>
     .ite ((↑(UInt8.toNat v0):Int)==(48:Int))
      (.ite (!ByteArray.toList (x.1)==ByteArray.toList { data := #[(48:UInt8)] })
       (.ret (.tup [(.agg [.v (.bool w0.1),.w w0.2]),(.one (.v (.bool (false))))]))
       (.need (in64 (10:Int)) (.need ((↑(ByteArray.size (x.1)):Int)=(↑(List.length (Array.toList (ByteArray.data (x.1)))):El (Cd.int .i64))∧(0:El (Cd.int .i64))≤(0:Int)∧(0:Int)≤(↑(ByteArray.size (x.1)):Int)∧(↑(ByteArray.size (x.1)):Int)≤(1000:El (Cd.int .i64))∧zW (wOf (10:Int))=(10:Int)∧wOf (zW w0)=w0) (.lt (parD (zW w0) (List.drop (Int.toNat (0:Int)) (Array.toList (ByteArray.data (x.1))))) (fun v1 =>
          .ite v1.1
           (.ite (false)
            (.lt (-zW (wOf v1.2)) (fun v2 =>
             .ret (.tup [(.agg [.v (.bool (wOf v2).1),.w (wOf v2).2]),(.one (.v (.bool (true))))])))
            (.ret (.tup [(.agg [.v (.bool (wOf v1.2).1),.w (wOf v1.2).2]),(.one (.v (.bool (true))))])))
           (.ret (.tup [(.agg [.v (.bool w0.1),.w w0.2]),(.one (.v (.bool (false))))])))))))
      (.need (in64 (10:Int)) (.need ((↑(ByteArray.size (x.1)):Int)=(↑(List.length (Array.toList (ByteArray.data (x.1)))):El (Cd.int .i64))∧(0:El (Cd.int .i64))≤(0:Int)∧(0:Int)≤(↑(ByteArray.size (x.1)):Int)∧(↑(ByteArray.size (x.1)):Int)≤(1000:El (Cd.int .i64))∧zW (wOf (10:Int))=(10:Int)∧wOf (zW w0)=w0) (.lt (parD (zW w0) (List.drop (Int.toNat (0:Int)) (Array.toList (ByteArray.data (x.1))))) (fun v1 =>
         .ite v1.1
          (.ite (false)
           (.lt (-zW (wOf v1.2)) (fun v2 =>
            .ret (.tup [(.agg [.v (.bool (wOf v2).1),.w (wOf v2).2]),(.one (.v (.bool (true))))])))
           (.ret (.tup [(.agg [.v (.bool (wOf v1.2).1),.w (wOf v1.2).2]),(.one (.v (.bool (true))))])))
          (.ret (.tup [(.agg [.v (.bool w0.1),.w w0.2]),(.one (.v (.bool (false))))]))))))))))
theorem tr_wparse_eq (x:Els [(false,.str)]):fnP E11 lpPar Tryz.f138 (encs [(false,.str)] x)=tr_wparse x:=by kernel_rfl
noncomputable def con_rscale:Con Tryz.prog:=⟨71,[],_,cf_rscale,val_con (E:=E11) (L:=lpScale) mixed Tryz.func71 (one_loop scaleL_ok (by kernel_rfl)) [(false,.int .i64)] (fun x=>(0:Int)≤x.1∧x.1≤(20:Int)) (fun x=>.agg (ck cW (wOf ((10:Int)^Int.toNat x.1)))) fun x hx=>by
  rw[tr_rscale_eq]
  unfold tr_rscale
  simp only[T.wp]
  dsimp only [El]at hx ⊢
  exact ⟨⟨by omega,hx.1,hx.2,rfl⟩,rfl⟩⟩
theorem ext_list (s:ByteArray) (i n:Nat):(s.extract i n).data.toList=(s.data.toList.take n).drop i:=by
  rw[ByteArray.data_extract,Array.toList_extract]
  simp[List.extract,List.drop_take]
def pzB (neg:Bool) (l d:List UInt8):Option Int:=
  if 400<l.length then none else match d with
  | []=>none
  | b::r=>if b.toNat=48∧l≠[48] then none else if (parD 0 (b::r)).1=true then some (if neg then -(parD 0 (b::r)).2 else (parD 0 (b::r)).2) else none
def pz (l:List UInt8):Option Int:=match l with
  | []=>none
  | b::r=>if b.toNat=45 then pzB true (b::r) r else pzB false (b::r) (b::r)
theorem parD_fits : ∀ (l:List UInt8) (v:Int),Pq.fits v=true→Pq.fits (parD v l).2=true
  | [],v,h=>h
  | b::r,v,h=>by
    unfold parD
    split
    · exact h
    · split
      · rename_i h2;exact parD_fits r _ h2.2
      · exact h
abbrev noW:Av:=.tup [.agg [.v (.bool w0.1),.w w0.2],.one (.v (.bool false))]
abbrev yesW (z:Int):Av:=.tup [.agg [.v (.bool (wOf z).1),.w (wOf z).2],.one (.v (.bool true))]
theorem par_tail {l d:List UInt8} {neg f:Bool} {G:Av} (hG:G=ansA true cW (pzB neg l d).isSome (wOf ((pzB neg l d).getD 0)) w0) (hd:d.length≤l.length) (hf:f=neg) :
    (decide ((l.length:Int)>400)=true→noW=G)∧(decide ((l.length:Int)>400)=false→((d==[])=true→noW=G)∧((d==[])=false → ∃ x,(0:Int)≤0∧d[0]?=some x ∧
      (((x.toNat:Int)==48)=true→((!l==[48])=true→noW=G)∧((!l==[48])=false→in64 10∧(True∧(0:Int)≤0∧(0:Int)≤(d.length:Int)∧(d.length:Int)≤1000∧True∧True) ∧
          ((parD 0 d).1=true→(f=true→yesW (-(parD 0 d).2)=G)∧(f=false→yesW (parD 0 d).2=G))∧((parD 0 d).1=false→noW=G))) ∧
      (((x.toNat:Int)==48)=false→in64 10∧(True∧(0:Int)≤0∧(0:Int)≤(d.length:Int)∧(d.length:Int)≤1000∧True∧True) ∧
          ((parD 0 d).1=true→(f=true→yesW (-(parD 0 d).2)=G)∧(f=false→yesW (parD 0 d).2=G))∧((parD 0 d).1=false→noW=G)))):=by
  subst hf
  have no:pzB f l d=none→noW=G:=fun h=>by rw[hG,h];rfl
  have yes : ∀ z,pzB f l d=some z→yesW z=G:=fun z h=>by rw[hG,h];rfl
  have i10:in64 10:=⟨by omega,by omega⟩
  refine ⟨fun h=>no ?_,fun h=>⟨fun h1=>no ?_,fun h1=>?_⟩⟩
  · have h:=of_decide_eq_true h
    unfold pzB;rw[if_pos (by omega)]
  · have:d=[]:=by simpa using h1
    subst this
    unfold pzB;split <;> rfl
  · have h:=of_decide_eq_false h
    rcases d with _|⟨b,r⟩
    · simp at h1
    · have tail : ¬ (b.toNat = 48 ∧ l ≠ [48]) → in64 10 ∧ (True ∧ (0 : Int) ≤ 0 ∧ (0 : Int) ≤ ((b :: r).length : Int) ∧ ((b :: r).length : Int) ≤ 1000 ∧ True ∧ True) ∧
          ((parD 0 (b::r)).1=true→(f=true→yesW (-(parD 0 (b::r)).2)=G)∧(f=false→yesW (parD 0 (b::r)).2=G))∧((parD 0 (b::r)).1=false→noW=G):=fun hn=>by
        refine ⟨i10,⟨trivial,by omega,by omega,by omega,trivial,trivial⟩,fun hp=>⟨fun hf=>yes _ ?_,fun hf=>yes _ ?_⟩,fun hp=>no ?_⟩
        · unfold pzB;rw[if_neg (by omega)];simp only;rw[if_neg hn,if_pos hp,if_pos hf]
        · unfold pzB;rw[if_neg (by omega)];simp only;rw[if_neg hn,if_pos hp,if_neg (by rw[hf];simp)]
        · unfold pzB;rw[if_neg (by omega)];simp only;rw[if_neg hn,if_neg (by rw[hp];simp)]
      refine ⟨b,Int.le_refl _,rfl,fun h48=>⟨fun hl=>no ?_,fun hl=>tail ?_⟩,fun h48=>tail ?_⟩
      · have h48:b.toNat=48:=by have:=beq_iff_eq.1 h48;omega
        unfold pzB;rw[if_neg (by omega)];simp only
        rw[if_pos ⟨h48,fun e=>by rw[e]at hl;simp at hl⟩]
      · intro hn;exact hn.2 (by simpa using hl)
      · intro hn;rw[hn.1]at h48;simp at h48
theorem wparse_ok (x:Els [(false,.str)]):(tr_wparse x).wp (· = ansA true cW (pz x.1.data.toList).isSome (wOf ((pz x.1.data.toList).getD 0)) w0):=by
  obtain ⟨s,u⟩:=x
  revert s
  intro (s:ByteArray)
  have hs:s.size=s.data.toList.length:=rfl
  have z0:zW w0=0:=rfl
  have w00:wOf 0=w0:=by
    unfold wOf
    rw[dif_pos (show (0:Int).natAbs<Pq.bp 32 from Pq.bp_pos 32)];rfl
  have z10:zW (wOf 10)=10:=zW_wOf (i64_lt (by omega) (by omega))
  have i10:in64 10:=⟨by omega,by omega⟩
  have fz : ∀ l,zW (wOf (parD 0 l).2)=(parD 0 l).2:=fun l=>zW_wOf (by
    have:=parD_fits l 0 (by unfold Pq.fits;exact decide_eq_true (Pq.bp_pos 32))
    unfold Pq.fits at this
    exact of_decide_eq_true this)
  unfold tr_wparse
  simp only[T.wp,ByteArray.toList_eq,hs,ext_list,Int.toNat_natCast,List.take_length,show Int.toNat (1:Int)=1 from rfl,show Int.toNat (0:Int)=0 from rfl,List.drop_zero,z0,w00,z10,fz]
  have hsz : ∀ n,(s.extract 1 n).size=(s.extract 1 n).data.toList.length:=fun n=>rfl
  simp only[hsz,ext_list,List.take_length]
  generalize s.data.toList=l
  dsimp only [El]
  rcases l with _|⟨b,r⟩
  · exact ⟨fun h=>by simp at h,fun _=>⟨fun h=>by simp at h,fun _=>⟨fun _=>rfl,fun h=>by simp at h⟩⟩⟩
  · refine ⟨fun _=>⟨b,Int.le_refl _,rfl,fun hb=>⟨⟨by omega,by simp only[List.length_cons];omega,Int.le_refl _⟩,?_⟩,fun hb=>?_⟩,fun h=>by simp at h⟩
    · have hb':b.toNat=45:=by have:=beq_iff_eq.1 hb;omega
      have e:pz (b::r)=pzB true (b::r) r:=if_pos hb'
      have tl:=par_tail (l:=b::r) (d:=r) (neg:=true) (f:=((b.toNat:Int)==45)) (G:=ansA true cW (pz (b::r)).isSome (wOf ((pz (b::r)).getD 0)) w0) (by rw[e]) (by simp) hb
      exact tl
    · have hb':¬ b.toNat=45:=fun e=>by rw[e]at hb;cases hb
      have e:pz (b::r)=pzB false (b::r) (b::r):=if_neg hb'
      have tl:=par_tail (l:=b::r) (d:=b::r) (neg:=false) (f:=((b.toNat:Int)==45)) (G:=ansA true cW (pz (b::r)).isSome (wOf ((pz (b::r)).getD 0)) w0) (by rw[e]) (Nat.le_refl _) hb
      exact tl
noncomputable def con_wparse:Con Tryz.prog:=⟨138,[],_,cf_wparse,ans_con0 (E:=E11) (L:=lpPar) mixed Tryz.func138 (one_loop parL_ok (by kernel_rfl)) [(false,.str)] true cW (fun x=>(pz x.1.data.toList).isSome) (fun x=>wOf ((pz x.1.data.toList).getD 0)) (fun _=>w0) fun x=>by rw[tr_wparse_eq];exact wparse_ok x⟩
noncomputable def E12:Env Tryz.prog:=⟨con_rscale::con_wparse::E11.con,E11.zero,E11.cod,E11.sure,E11.base,E11.frz⟩
theorem cf_ibyte (xs:Array Value) (w:World):(callFunc 197 xs).run Tryz.prog w=.ok (.enter 197 xs) w:=by kernel_rfl
theorem cf_sindex (xs:Array Value) (w:World):(callFunc 182 xs).run Tryz.prog w=.ok (.enter 182 xs) w:=by kernel_rfl
theorem cf_scut (xs:Array Value) (w:World):(callFunc 148 xs).run Tryz.prog w=.ok (.enter 148 xs) w:=by kernel_rfl
theorem cf_cut (xs:Array Value) (w:World):(callFunc 102 xs).run Tryz.prog w=.ok (.enter 102 xs) w:=by kernel_rfl
def slash:ByteArray:=⟨#[47]⟩
noncomputable def con_ibyte:Con Tryz.prog:=⟨197,[],pureRun' [(false,.str),(false,.int .u8)] (fun x=>.ret (aI .i64 (Lib.indexByte x.1.data.toList (Int.toNat x.2.1).toUInt8))),cf_ibyte,ret_con _ _ fun x vs w R Q=>by
  obtain ⟨s,c,u⟩:=x
  revert s c
  intro (s:ByteArray) (c:Int) ha hQ
  obtain ⟨v,v',rfl,hv,hv'⟩:=args2 ha
  have hv:=is_str hv
  have hv':=is_int hv'
  subst hv
  subst hv'
  refine ⟨_,_,hQ,(Tryz.stringslite_IndexByte s c w).mono fun e w' hr=>?_,fun w' R'=>.val rfl⟩
  obtain ⟨rfl,rfl⟩:=hr
  exact ⟨rfl,Below.refl _ _⟩⟩
noncomputable def E13:Env Tryz.prog:=⟨con_ibyte::E12.con,E12.zero,E12.cod,E12.sure,E12.base,E12.frz⟩
noncomputable def tr_sindex (x:ByteArray):T Av:=
 .ite ((↑(ByteArray.size slash):Int)==(0:Int))
  (.ret (.one (.v (.int .i64 ((0:Int))))))
  (.ite (ByteArray.toList slash==ByteArray.toList x)
   (.ret (.one (.v (.int .i64 ((0:Int))))))
   (.ite ((↑(ByteArray.size slash):Int)==(1:Int))
    (.get (Array.toList (ByteArray.data slash)) ((0:Int)) (fun v0 =>
     .ret (.one (.v (.int .i64 (Go.Lib.indexByte (Array.toList (ByteArray.data x)) (Nat.toUInt8 (Int.toNat (↑(UInt8.toNat v0):Int)))))))))
    (.ite (decide ((↑(ByteArray.size slash):Int)≥(↑(ByteArray.size x):Int)))
     (.ret (.one (.v (.int .i64 ((-1:Int))))))
     (.fail))))
theorem tr_sindex_eq (x:ByteArray):fnP E13 (fun _=>none) Tryz.f182 (encs [(false,.str),(false,.str)] (x,slash,()))=tr_sindex x:=by kernel_rfl
def slashAt (s:ByteArray):Int:=Lib.indexByte s.data.toList 47
noncomputable def con_sindex:Con Tryz.prog:=⟨182,[],_,cf_sindex,val_con (E:=E13) mixed Tryz.func182 no_loops [(false,.str),(false,.str)] (fun x=>x.2.1=slash) (fun x=>aI .i64 (slashAt x.1)) fun x hx=>by
  obtain ⟨s,t,⟨⟩⟩:=x
  revert s t
  intro (s:ByteArray) (t:ByteArray) (hx:t=slash)
  subst hx
  rw[tr_sindex_eq]
  unfold tr_sindex
  simp only[T.wp,ByteArray.toList_eq]
  unfold slashAt
  refine ⟨fun h=>(by cases h),fun _=>⟨fun h=>?_,fun _=>⟨fun _=>⟨47,Int.le_refl _,rfl,rfl⟩,fun h=>(by cases h)⟩⟩⟩
  have h':[47]=s.data.toList:=beq_iff_eq.1 h
  rw[←h']
  rfl⟩
noncomputable def E14:Env Tryz.prog:=⟨con_sindex::E13.con,E13.zero,E13.cod,E13.sure,E13.base,E13.frz⟩
noncomputable def tr_scut (x:ByteArray):T Av:=
 .need (slash=slash) (.ite (decide (slashAt x≥(0:Int)))
   (.need ((0:Int)≤(0:Int)∧(0:Int)≤slashAt x∧slashAt x≤(↑(ByteArray.size x):Int)) (.lt (ByteArray.extract x (Int.toNat (0:Int)) (Int.toNat (slashAt x))) (fun v0 =>
     .need ((0:Int)≤IntKind.wrap .i64 (slashAt x+(↑(ByteArray.size slash):Int))∧IntKind.wrap .i64 (slashAt x+(↑(ByteArray.size slash):Int))≤(↑(ByteArray.size x):Int)∧(↑(ByteArray.size x):Int)≤(↑(ByteArray.size x):Int)) (.lt (ByteArray.extract x (Int.toNat (IntKind.wrap .i64 (slashAt x+(↑(ByteArray.size slash):Int)))) (Int.toNat (↑(ByteArray.size x):Int))) (fun v1 =>
       .ret (.tup [(.one (.v (.string (v0)))),(.one (.v (.string (v1)))),(.one (.v (.bool (true))))]))))))
   (.ret (.tup [(.one (.v (.string (x)))),(.one (.v (.string ({ data := #[] })))),(.one (.v (.bool (false))))])))
theorem tr_scut_eq (x:ByteArray):fnP E14 (fun _=>none) Tryz.f148 (encs [(false,.str),(false,.str)] (x,slash,()))=tr_scut x:=by kernel_rfl
theorem slash_lt : ∀ (l:List UInt8) (c:UInt8),Lib.indexByte l c<l.length
  | [],c=>by simp[Lib.indexByte]
  | b::l,c=>by
    have:=slash_lt l c
    simp only[Lib.indexByte,List.length_cons]
    split
    · omega
    · split <;> omega
def cutA (s:ByteArray):ByteArray:=if 0≤slashAt s then s.extract 0 (slashAt s).toNat else s
def cutB (s:ByteArray):ByteArray:=if 0≤slashAt s then s.extract (slashAt s+1).toNat s.size else ⟨#[]⟩
theorem scut_ok (s:ByteArray) (hs:lenOk s.size):(tr_scut s).wp (· = .tup [.one (.v (.string (cutA s))),.one (.v (.string (cutB s))),aB (decide (0≤slashAt s))]):=by
  unfold tr_scut
  have h1:slashAt s<s.size:=slash_lt _ _
  have h2:(slash.size:Int)=1:=rfl
  unfold lenOk at hs
  simp only[T.wp,h2]
  refine ⟨trivial,fun h=>?_,fun h=>?_⟩
  · have h:=of_decide_eq_true h
    have e:IntKind.i64.wrap (slashAt s+1)=slashAt s+1:=IntWalk.i64_in _ (by omega)
    rw[e]
    unfold cutA cutB
    rw[if_pos h,if_pos h,decide_eq_true h]
    exact ⟨⟨by omega,h,by omega⟩,⟨by omega,by omega,by omega⟩,rfl⟩
  · have h:=of_decide_eq_false h
    have h:¬ (0≤slashAt s):=h
    unfold cutA cutB
    rw[if_neg h,if_neg h,decide_eq_false h]
    rfl
noncomputable def con_scut:Con Tryz.prog:=⟨148,[],_,cf_scut,val_con (E:=E14) mixed Tryz.func148 no_loops [(false,.str),(false,.str)] (fun x=>x.2.1=slash∧lenOk (ByteArray.size x.1)) (fun x=>.tup [.one (.v (.string (cutA x.1))),.one (.v (.string (cutB x.1))),aB (decide (0≤slashAt x.1))]) fun x hx=>by
  obtain ⟨s,t,⟨⟩⟩:=x
  revert s t
  intro (s:ByteArray) (t:ByteArray) (hx:t=slash∧lenOk s.size)
  have hs:=hx.2
  have hx:=hx.1
  subst hx
  rw[tr_scut_eq]
  exact scut_ok s hs⟩
noncomputable def E15:Env Tryz.prog:=⟨con_scut::E14.con,E14.zero,E14.cod,E14.sure,E14.base,E14.frz⟩
noncomputable def con_cut:Con Tryz.prog:=⟨102,[],_,cf_cut,val_con (E:=E15) mixed Tryz.func102 no_loops [(false,.str),(false,.str)] (fun x=>x.2.1=slash∧lenOk (ByteArray.size x.1)) (fun x=>.tup [.one (.v (.string (cutA x.1))),.one (.v (.string (cutB x.1))),aB (decide (0≤slashAt x.1))]) fun x hx=>by
  obtain ⟨s,t,⟨⟩⟩:=x
  revert s t
  intro (s:ByteArray) (t:ByteArray) (hx:t=slash∧lenOk s.size)
  have hs:=hx.2
  have hx:=hx.1
  subst hx
  have e:fnP E15 (fun _=>none) Tryz.f102 (encs [(false,.str),(false,.str)] (s,slash,()))=.need (slash=slash∧lenOk s.size) (.ret (.tup [.one (.v (.string (cutA s))),.one (.v (.string (cutB s))),aB (decide (0≤slashAt s))])):=by kernel_rfl
  rw[e]
  exact ⟨⟨rfl,hs⟩,rfl⟩⟩
noncomputable def E16:Env Tryz.prog:=⟨con_cut::E15.con,E15.zero,E15.cod,E15.sure,E15.base,E15.frz⟩
noncomputable def tr_rparse (x:Els [(false,.str)]):T Av:=
 .need ({ data := #[(47:UInt8)] }=slash∧lenOk (ByteArray.size (x.1))) (.ite (Option.isSome (pz (Array.toList (ByteArray.data (cutA (x.1))))))
   (.lt (wOf (Option.getD (pz (Array.toList (ByteArray.data (cutA (x.1))))) (0:Int))) (fun v0 =>
    .ite (decide ((0:Int)≤slashAt (x.1)))
     (.ite (Option.isSome (pz (Array.toList (ByteArray.data (cutB (x.1))))))
      (.lt (wOf (Option.getD (pz (Array.toList (ByteArray.data (cutB (x.1))))) (0:Int))) (fun v1 =>
       .ite (!!decide (zW v1=(1:Int)))
        (.ret (.tup [(.agg [.v (.bool w0.1),.w w0.2,.v (.bool w0.1),.w w0.2]),(.one (.v (.bool (false))))]))
        (.ite (!okF (v0,v1))
         (.ret (.tup [(.agg [.v (.bool w0.1),.w w0.2,.v (.bool w0.1),.w w0.2]),(.one (.v (.bool (false))))]))
         (.ret (.tup [(.agg [.v (.bool v0.1),.w v0.2,.v (.bool v1.1),.w v1.2]),(.one (.v (.bool (true))))])))))
      (.ite (!false)
       (.ret (.tup [(.agg [.v (.bool w0.1),.w w0.2,.v (.bool w0.1),.w w0.2]),(.one (.v (.bool (false))))]))
       (.ite (!okF (v0,w0))
        (.ret (.tup [(.agg [.v (.bool w0.1),.w w0.2,.v (.bool w0.1),.w w0.2]),(.one (.v (.bool (false))))]))
        (.ret (.tup [(.agg [.v (.bool v0.1),.w v0.2,.v (.bool w0.1),.w w0.2]),(.one (.v (.bool (true))))])))))
     (.ite (!true)
      (.ret (.tup [(.agg [.v (.bool w0.1),.w w0.2,.v (.bool w0.1),.w w0.2]),(.one (.v (.bool (false))))]))
      (.ite (!okF (v0,wOf (1:Int)))
       (.ret (.tup [(.agg [.v (.bool w0.1),.w w0.2,.v (.bool w0.1),.w w0.2]),(.one (.v (.bool (false))))]))
       (.ret (.tup [(.agg [.v (.bool v0.1),.w v0.2,.v (.bool (wOf (1:Int)).1),.w (wOf (1:Int)).2]),(.one (.v (.bool (true))))]))))))
   (.ite (decide ((0:Int)≤slashAt (x.1)))
    (.ite (Option.isSome (pz (Array.toList (ByteArray.data (cutB (x.1))))))
     (.lt (wOf (Option.getD (pz (Array.toList (ByteArray.data (cutB (x.1))))) (0:Int))) (fun v0 =>
      .ite (!false)
       (.ret (.tup [(.agg [.v (.bool w0.1),.w w0.2,.v (.bool w0.1),.w w0.2]),(.one (.v (.bool (false))))]))
       (.ite (!okF (w0,v0))
        (.ret (.tup [(.agg [.v (.bool w0.1),.w w0.2,.v (.bool w0.1),.w w0.2]),(.one (.v (.bool (false))))]))
        (.ret (.tup [(.agg [.v (.bool w0.1),.w w0.2,.v (.bool v0.1),.w v0.2]),(.one (.v (.bool (true))))])))))
     (.ite (!false)
      (.ret (.tup [(.agg [.v (.bool w0.1),.w w0.2,.v (.bool w0.1),.w w0.2]),(.one (.v (.bool (false))))]))
      (.ite (!okF (w0,w0))
       (.ret (.tup [(.agg [.v (.bool w0.1),.w w0.2,.v (.bool w0.1),.w w0.2]),(.one (.v (.bool (false))))]))
       (.ret (.tup [(.agg [.v (.bool w0.1),.w w0.2,.v (.bool w0.1),.w w0.2]),(.one (.v (.bool (true))))])))))
    (.ite (!false)
     (.ret (.tup [(.agg [.v (.bool w0.1),.w w0.2,.v (.bool w0.1),.w w0.2]),(.one (.v (.bool (false))))]))
     (.ite (!okF (w0,wOf (1:Int)))
      (.ret (.tup [(.agg [.v (.bool w0.1),.w w0.2,.v (.bool w0.1),.w w0.2]),(.one (.v (.bool (false))))]))
      (.ret (.tup [(.agg [.v (.bool w0.1),.w w0.2,.v (.bool (wOf (1:Int)).1),.w (wOf (1:Int)).2]),(.one (.v (.bool (true))))]))))))
theorem tr_rparse_eq (x:Els [(false,.str)]):fnP E16 (fun _=>none) Tryz.f92 (encs [(false,.str)] x)=tr_rparse x:=by kernel_rfl
def pR (s:ByteArray):Option F:=match pz (cutA s).data.toList with
  | none=>none
  | some n=>if 0≤slashAt s then (match pz (cutB s).data.toList with
      | none=>none
      | some d=>if zW (wOf d)=1 then none else if okF (wOf n,wOf d)=true then some (wOf n,wOf d) else none)
    else if okF (wOf n,wOf 1)=true then some (wOf n,wOf 1) else none
theorem rparse_ok (x:Els [(false,.str)]) (hs:lenOk (ByteArray.size x.1)):(tr_rparse x).wp (· = ansF (pR x.1).isSome ((pR x.1).getD (w0,w0))):=by
  obtain ⟨s,u⟩:=x
  revert s
  intro (s:ByteArray) (hs:lenOk s.size)
  unfold tr_rparse
  simp only[T.wp]
  have no:pR s=none→Av.tup [.agg [.v (.bool w0.1),.w w0.2,.v (.bool w0.1),.w w0.2],.one (.v (.bool false))]=ansF (pR s).isSome ((pR s).getD (w0,w0)):=fun h=>by rw[h];rfl
  have yes : ∀ f:F,pR s=some f→Av.tup [.agg [.v (.bool f.1.1),.w f.1.2,.v (.bool f.2.1),.w f.2.2],.one (.v (.bool true))]=ansF (pR s).isSome ((pR s).getD (w0,w0)):=fun f h=>by rw[h];rfl
  refine ⟨⟨rfl,hs⟩,fun hA=>⟨fun h0=>⟨fun hB=>⟨fun h1=>no ?_,fun h1=>⟨fun h2=>no ?_,fun h2=>yes (wOf ((pz (cutA s).data.toList).getD 0),wOf ((pz (cutB s).data.toList).getD 0)) ?_⟩⟩,fun hB=>⟨fun _=>no ?_,fun h=>(by cases h)⟩⟩,fun h0=>⟨fun h=>(by cases h),fun _=>⟨fun h2=>no ?_,fun h2=>yes (wOf ((pz (cutA s).data.toList).getD 0),wOf 1) ?_⟩⟩⟩,
    fun hA=>⟨fun h0=>⟨fun hB=>⟨fun _=>no ?_,fun h=>(by cases h)⟩,fun hB=>⟨fun _=>no ?_,fun h=>(by cases h)⟩⟩,fun h0=>⟨fun _=>no ?_,fun h=>(by cases h)⟩⟩⟩
  all_goals unfold pR
  · obtain ⟨n,hn⟩:=Option.isSome_iff_exists.1 hA
    obtain ⟨d,hd⟩:=Option.isSome_iff_exists.1 hB
    rw[hd]at h1
    have h1':zW (wOf d)=1:=by simpa using h1
    simp only[hn,hd,of_decide_eq_true h0,if_true,h1']
  · obtain ⟨n,hn⟩:=Option.isSome_iff_exists.1 hA
    obtain ⟨d,hd⟩:=Option.isSome_iff_exists.1 hB
    rw[hd]at h1 h2
    rw[hn]at h2
    have h1':¬ zW (wOf d)=1:=by simpa using h1
    have h2':okF (wOf n,wOf d)=false:=by simpa using h2
    simp only[hn,hd,of_decide_eq_true h0,if_true,h1',if_false,h2',Bool.false_eq_true]
  · obtain ⟨n,hn⟩:=Option.isSome_iff_exists.1 hA
    obtain ⟨d,hd⟩:=Option.isSome_iff_exists.1 hB
    rw[hd]at h1 h2
    rw[hn]at h2
    have h1':¬ zW (wOf d)=1:=by simpa using h1
    have h2':okF (wOf n,wOf d)=true:=by simpa using h2
    simp only[hn,hd,of_decide_eq_true h0,if_true,h1',if_false,h2',Option.getD_some]
  · obtain ⟨n,hn⟩:=Option.isSome_iff_exists.1 hA
    have hd:=Option.isSome_eq_false_iff.1 hB
    rw[Option.isNone_iff_eq_none]at hd
    simp only[hn,hd,of_decide_eq_true h0,if_true]
  · obtain ⟨n,hn⟩:=Option.isSome_iff_exists.1 hA
    rw[hn]at h2
    have h2':okF (wOf n,wOf 1)=false:=by simpa using h2
    simp only[hn,of_decide_eq_false h0,if_false,h2',Bool.false_eq_true]
  · obtain ⟨n,hn⟩:=Option.isSome_iff_exists.1 hA
    rw[hn]at h2
    have h2':okF (wOf n,wOf 1)=true:=by simpa using h2
    simp only[hn,of_decide_eq_false h0,if_false,h2',if_true,Option.getD_some]
  all_goals
    have hn:=Option.isSome_eq_false_iff.1 hA
    rw[Option.isNone_iff_eq_none]at hn
    simp only[hn]
noncomputable def con_rparse:Con Tryz.prog:=⟨92,[],_,cf_rparse,ans_con (E:=E16) mixed Tryz.func92 no_loops [(false,.str)] (fun x=>lenOk (ByteArray.size x.1)) true cF (fun x=>(pR x.1).isSome) (fun x=>(pR x.1).getD (w0,w0)) (fun _=>(w0,w0)) fun x hx=>by
  rw[tr_rparse_eq]
  exact rparse_ok x hx⟩
noncomputable def E17:Env Tryz.prog:=⟨con_rparse::E16.con,E16.zero,E16.cod,E16.sure,E16.base,E16.frz⟩
abbrev spDec:LSpec:=⟨85,[(1,false,.int .i64),(12,false,.str)],[(2,0,0),(6,1,0),(7,2,0),(8,3,0)],[(29,cF),(27,cW),(4,.bool),(27,cW)],fun e=>match e with|.exit _=>[1,12]|_=>[]⟩
noncomputable def tr_decL (x:LSpec.X spDec×LSpec.Y spDec):T (Rd spDec):=
 .ite (decide ((↑(ByteArray.size x.1.2.1):Int)≤x.1.1))
  (.need ((↑(ByteArray.size { data := #[(48:UInt8)] }+ByteArray.size x.1.2.1):Int)≤IntKind.max .i64) (.lt ({ data := #[(48:UInt8)] }++x.1.2.1) (fun v0 =>
    .ret (.again (x.1.1,(v0,())) (x.2.1,(x.2.2.1,(x.2.2.2.1,(x.2.2.2.2.1,()))))))))
  (.ret (.out (Go.Exit.exit (0:Nat)) [(.one (.v (.int .i64 x.1.1))),(.one (.v (.string x.1.2.1)))] (x.2.1,(x.2.2.1,(x.2.2.2.1,(x.2.2.2.2.1,()))))))
theorem tr_decL_eq (x:LSpec.X spDec×LSpec.Y spDec):LSpec.round spDec E17 (fun _=>none) (bodyOf Tryz.f36 0) x.1 x.2=tr_decL x:=by kernel_rfl
def padS (d:Int) (s:ByteArray):ByteArray:=⟨(List.replicate (d+1-s.size).toNat 48++s.data.toList).toArray⟩
theorem padS_end {d:Int} {s:ByteArray} (h:¬ (s.size:Int)≤d):padS d s=s:=by
  unfold padS
  rw[show (d+1-(s.size:Int)).toNat=0 from by omega]
  simp
theorem padS_step {d:Int} {s:ByteArray} (h:(s.size:Int)≤d):padS d (⟨#[48]⟩++s)=padS d s:=by
  unfold padS
  have e:(ByteArray.size (⟨#[48]⟩++s))=1+s.size:=by rw[ByteArray.size_append];rfl
  rw[e]
  obtain ⟨k,hk⟩ : ∃ k:Nat,(d+1-(s.size:Int)).toNat=k+1:=⟨(d-s.size).toNat,by omega⟩
  rw[show (d+1-((1+s.size:Nat):Int)).toNat=k from by omega,hk]
  have e2:(⟨#[48]⟩++s:ByteArray).data.toList=48::s.data.toList:=by
    rw[ByteArray.data_append];simp
  rw[e2,List.replicate_succ',List.append_assoc];rfl
def outDec (x:LSpec.X spDec) (y:LSpec.Y spDec):T (Exit×List Av×LSpec.Y spDec):=
  .need (x.1≤20∧(ByteArray.size x.2.1:Int)≤2000) (.lt (padS x.1 x.2.1) fun u=>.ret (.exit 0,[aI .i64 x.1,.one (.v (.string u))],y))
theorem decL_core (d : Int) (s : ByteArray) (y : LSpec.Y spDec) (Q : Exit × List Av × LSpec.Y spDec → Prop) (h : (outDec (d, s, ()) y).wp Q) : (tr_decL ((d, s, ()), y)).wp fun r => match r with
      | .again x' y'=>(x'.1+1-(ByteArray.size x'.2.1:Int)).toNat<(d+1-s.size).toNat∧(outDec x' y').wp Q
      | .out e avs y'=>Q (e,avs,y'):=by
  unfold tr_decL
  unfold outDec at h ⊢
  simp only[T.wp]at h ⊢
  dsimp only [El,vts,bts,spDec]at h ⊢
  obtain ⟨⟨h1,h2⟩,hq⟩:=h
  have e1:ByteArray.size (⟨#[48]⟩:ByteArray)=1:=rfl
  refine ⟨fun hlt=>?_,fun hge=>?_⟩
  · have hlt:=of_decide_eq_true hlt
    rw[ByteArray.size_append,e1,padS_step hlt]
    refine ⟨?_,by omega,⟨h1,by omega⟩,hq⟩
    show ((_:Nat):Int)≤9223372036854775807
    omega
  · have hge:=of_decide_eq_false hge
    rw[padS_end hge]at hq
    exact hq
theorem decL_ok:LoopOk Tryz.prog 0 (bodyOf Tryz.f36 0) (spDec.run outDec):=
  loop_ok (E:=E17) (L:=fun _=>none) mixed 0 (loops_none _ _ _) spDec (Nat.zero_le _) outDec (fun x _=>(x.1+1-(ByteArray.size x.2.1:Int)).toNat) (by
    rintro ⟨d,s,⟨⟩⟩ y Q h
    rw[tr_decL_eq ((d,s,()),y)]
    exact decL_core d s y Q h)
noncomputable def lpDec:Loops:=oneL 12 (spDec.run outDec)
noncomputable def tr_rdecimal (x:Els [(true,cF),(false,.int .i64)]):T Av:=
 .need (lenOk (List.length [x.1])) (.ite (!List.all [x.1] (safeF (500:Int)))
   (.ret (.tup [(.one (.v (.string ({ data := #[] })))),(.one (.v (.bool (false))))]))
   (.lt (if (0:Int)>x.2.1 then (0:Int) else x.2.1) (fun v0 =>
    .lt (if (20:Int)<v0 then (20:Int) else v0) (fun v1 =>
     dup (.need ((0:Int)≤v1∧v1≤(20:Int)) (.lt (zW (false,x.1.1.2)*zW (wOf ((10:Int)^Int.toNat v1))) (fun v2 =>
        .lt (zW (wOf v2)) (fun v3 =>
         .lt (zW x.1.2) (fun v4 =>
          .need (in64 (2:Int)) (.lt (zW (wOf (if v4=(0:Int) then (0:Int) else Int.tmod v3 v4))*zW (wOf (2:Int))) (fun v5 =>
            .ite (decide (Pq.cz (zW (wOf v5)) (zW x.1.2)≥(0:Int)))
             (dup (.lt (zW (wOf (if v4=(0:Int) then (0:Int) else Int.tdiv v3 v4))+zW (wOf (1:Int))) (fun v6 =>
               .need (v1≤(20:El (Cd.int .i64))∧(↑(ByteArray.size (txt (wOf v6))):Int)≤(2000:Int)) (.lt (padS v1 (txt (wOf v6))) (fun v7 =>
                 .ite (decide (v1>(0:Int)))
                  (.need ((0:Int)≤(0:Int)∧(0:Int)≤IntKind.wrap .i64 ((↑(ByteArray.size v7):Int)-v1)∧IntKind.wrap .i64 ((↑(ByteArray.size v7):Int)-v1)≤(↑(ByteArray.size v7):Int)) (.lt (ByteArray.extract v7 (Int.toNat (0:Int)) (Int.toNat (IntKind.wrap .i64 ((↑(ByteArray.size v7):Int)-v1)))) (fun v8 =>
                    .need ((↑(ByteArray.size v8+ByteArray.size { data := #[(46:UInt8)] }):Int)≤IntKind.max .i64) (.lt (v8++{ data := #[(46:UInt8)] }) (fun v9 =>
                      .need ((0:Int)≤IntKind.wrap .i64 ((↑(ByteArray.size v7):Int)-v1)∧IntKind.wrap .i64 ((↑(ByteArray.size v7):Int)-v1)≤(↑(ByteArray.size v7):Int)∧(↑(ByteArray.size v7):Int)≤(↑(ByteArray.size v7):Int)) (.lt (ByteArray.extract v7 (Int.toNat (IntKind.wrap .i64 ((↑(ByteArray.size v7):Int)-v1))) (Int.toNat (↑(ByteArray.size v7):Int))) (fun v10 =>
                        .need ((↑(ByteArray.size v9+ByteArray.size v10):Int)≤IntKind.max .i64) (.lt (v9++v10) (fun v11 =>
                          .ite (decide (Pq.cz (zW x.1.1) (0:Int)<(0:Int)))
                           (.ite (decide ((↑(Pq.bitn (Int.natAbs (zW (wOf v6)))):Int)>(0:Int)))
                            (.need ((↑(ByteArray.size { data := #[(45:UInt8)] }+ByteArray.size v11):Int)≤IntKind.max .i64) (.lt ({ data := #[(45:UInt8)] }++v11) (fun v12 =>
                              .ret (.tup [(.one (.v (.string (v12)))),(.one (.v (.bool (true&&Pq.fits v2&&Pq.fits v5))))]))))
                            (.ret (.tup [(.one (.v (.string (v11)))),(.one (.v (.bool (true&&Pq.fits v2&&Pq.fits v5))))])))
                           (.ret (.tup [(.one (.v (.string (v11)))),(.one (.v (.bool (true&&Pq.fits v2&&Pq.fits v5))))])))))))))))
                  (.ite (decide (Pq.cz (zW x.1.1) (0:Int)<(0:Int)))
                   (.ite (decide ((↑(Pq.bitn (Int.natAbs (zW (wOf v6)))):Int)>(0:Int)))
                    (.need ((↑(ByteArray.size { data := #[(45:UInt8)] }+ByteArray.size v7):Int)≤IntKind.max .i64) (.lt ({ data := #[(45:UInt8)] }++v7) (fun v8 =>
                      .ret (.tup [(.one (.v (.string (v8)))),(.one (.v (.bool (true&&Pq.fits v2&&Pq.fits v5))))]))))
                    (.ret (.tup [(.one (.v (.string (v7)))),(.one (.v (.bool (true&&Pq.fits v2&&Pq.fits v5))))])))
                   (.ret (.tup [(.one (.v (.string (v7)))),(.one (.v (.bool (true&&Pq.fits v2&&Pq.fits v5))))]))))))))
             (.need (v1≤(20:El (Cd.int .i64))∧(↑(ByteArray.size (txt (wOf (if v4=(0:Int) then (0:Int) else Int.tdiv v3 v4)))):Int)≤(2000:Int)) (.lt (padS v1 (txt (wOf (if v4=(0:Int) then (0:Int) else Int.tdiv v3 v4)))) (fun v6 =>
               .ite (decide (v1>(0:Int)))
                (.need ((0:Int)≤(0:Int)∧(0:Int)≤IntKind.wrap .i64 ((↑(ByteArray.size v6):Int)-v1)∧IntKind.wrap .i64 ((↑(ByteArray.size v6):Int)-v1)≤(↑(ByteArray.size v6):Int)) (.lt (ByteArray.extract v6 (Int.toNat (0:Int)) (Int.toNat (IntKind.wrap .i64 ((↑(ByteArray.size v6):Int)-v1)))) (fun v7 =>
                  .need ((↑(ByteArray.size v7+ByteArray.size { data := #[(46:UInt8)] }):Int)≤IntKind.max .i64) (.lt (v7++{ data := #[(46:UInt8)] }) (fun v8 =>
                    .need ((0:Int)≤IntKind.wrap .i64 ((↑(ByteArray.size v6):Int)-v1)∧IntKind.wrap .i64 ((↑(ByteArray.size v6):Int)-v1)≤(↑(ByteArray.size v6):Int)∧(↑(ByteArray.size v6):Int)≤(↑(ByteArray.size v6):Int)) (.lt (ByteArray.extract v6 (Int.toNat (IntKind.wrap .i64 ((↑(ByteArray.size v6):Int)-v1))) (Int.toNat (↑(ByteArray.size v6):Int))) (fun v9 =>
                      .need ((↑(ByteArray.size v8+ByteArray.size v9):Int)≤IntKind.max .i64) (.lt (v8++v9) (fun v10 =>
                        .ite (decide (Pq.cz (zW x.1.1) (0:Int)<(0:Int)))
                         (.ite (decide ((↑(Pq.bitn (Int.natAbs (zW (wOf (if v4=(0:Int) then (0:Int) else Int.tdiv v3 v4))))):Int)>(0:Int)))
                          (.need ((↑(ByteArray.size { data := #[(45:UInt8)] }+ByteArray.size v10):Int)≤IntKind.max .i64) (.lt ({ data := #[(45:UInt8)] }++v10) (fun v11 =>
                            .ret (.tup [(.one (.v (.string (v11)))),(.one (.v (.bool (true&&Pq.fits v2&&Pq.fits v5))))]))))
                          (.ret (.tup [(.one (.v (.string (v10)))),(.one (.v (.bool (true&&Pq.fits v2&&Pq.fits v5))))])))
                         (.ret (.tup [(.one (.v (.string (v10)))),(.one (.v (.bool (true&&Pq.fits v2&&Pq.fits v5))))])))))))))))
                (.ite (decide (Pq.cz (zW x.1.1) (0:Int)<(0:Int)))
                 (.ite (decide ((↑(Pq.bitn (Int.natAbs (zW (wOf (if v4=(0:Int) then (0:Int) else Int.tdiv v3 v4))))):Int)>(0:Int)))
                  (.need ((↑(ByteArray.size { data := #[(45:UInt8)] }+ByteArray.size v6):Int)≤IntKind.max .i64) (.lt ({ data := #[(45:UInt8)] }++v6) (fun v7 =>
                    .ret (.tup [(.one (.v (.string (v7)))),(.one (.v (.bool (true&&Pq.fits v2&&Pq.fits v5))))]))))
                  (.ret (.tup [(.one (.v (.string (v6)))),(.one (.v (.bool (true&&Pq.fits v2&&Pq.fits v5))))])))
                 (.ret (.tup [(.one (.v (.string (v6)))),(.one (.v (.bool (true&&Pq.fits v2&&Pq.fits v5))))])))))))))))))))))
theorem tr_rdecimal_eq (x:Els [(true,cF),(false,.int .i64)]):fnP E17 lpDec Tryz.f36 (encs [(true,cF),(false,.int .i64)] x)=tr_rdecimal x:=by kernel_rfl
def sgnT (z nz:Int) (ok:Bool) (s:ByteArray):T Av:=
  .ite (decide (Pq.cz nz 0<0)) (.ite (decide ((Pq.bitn (zW (wOf z)).natAbs:Int)>0)) (.need (((ByteArray.size ⟨#[45]⟩+s.size:Nat):Int)≤IntKind.i64.max) (.lt (⟨#[45]⟩++s) fun u=>.ret (.tup [.one (.v (.string u)),aB ok]))) (.ret (.tup [.one (.v (.string s)),aB ok]))) (.ret (.tup [.one (.v (.string s)),aB ok]))
def decT (z v1 nz:Int) (ok:Bool):T Av:=
  .need (v1≤20∧((ByteArray.size (txt (wOf z)):Nat):Int)≤2000) (.lt (padS v1 (txt (wOf z))) fun v7 =>
    .ite (decide (v1>0))
      (.need ((0:Int)≤0∧0≤IntKind.i64.wrap ((ByteArray.size v7:Int)-v1)∧IntKind.i64.wrap ((ByteArray.size v7:Int)-v1)≤(ByteArray.size v7:Int)) (.lt (ByteArray.extract v7 (Int.toNat 0) (Int.toNat (IntKind.i64.wrap ((ByteArray.size v7:Int)-v1)))) fun v8 =>
        .need (((ByteArray.size v8+ByteArray.size ⟨#[46]⟩:Nat):Int)≤IntKind.i64.max) (.lt (v8++⟨#[46]⟩) fun v9 =>
          .need (0≤IntKind.i64.wrap ((ByteArray.size v7:Int)-v1)∧IntKind.i64.wrap ((ByteArray.size v7:Int)-v1)≤(ByteArray.size v7:Int)∧(ByteArray.size v7:Int)≤(ByteArray.size v7:Int)) (.lt (ByteArray.extract v7 (Int.toNat (IntKind.i64.wrap ((ByteArray.size v7:Int)-v1))) (Int.toNat (ByteArray.size v7:Int))) fun v10 =>
            .need (((ByteArray.size v9+ByteArray.size v10:Nat):Int)≤IntKind.i64.max) (.lt (v9++v10) fun v11=>sgnT z nz ok v11)))))
      (sgnT z nz ok v7))
theorem dec_shape (x:Els [(true,cF),(false,.int .i64)]):tr_rdecimal x=.need (lenOk (List.length [x.1])) (.ite (!List.all [x.1] (safeF 500)) (.ret (.tup [.one (.v (.string ⟨#[]⟩)),aB false]))
    (.lt (if (0:Int)>x.2.1 then (0:Int) else x.2.1) fun v0=>.lt (if (20:Int)<v0 then (20:Int) else v0) fun v1=>dup (.need (0≤v1∧v1≤20) (.lt (zW (false,x.1.1.2)*zW (wOf (10^Int.toNat v1))) fun v2=>.lt (zW (wOf v2)) fun v3=>.lt (zW x.1.2) fun v4 =>
      .need (in64 2) (.lt (zW (wOf (if v4=0 then 0 else Int.tmod v3 v4))*zW (wOf 2)) fun v5=>.ite (decide (Pq.cz (zW (wOf v5)) (zW x.1.2)≥0))
        (dup (.lt (zW (wOf (if v4=0 then 0 else Int.tdiv v3 v4))+zW (wOf 1)) fun v6=>decT v6 v1 (zW x.1.1) (true&&Pq.fits v2&&Pq.fits v5)))
        (decT (if v4=0 then 0 else Int.tdiv v3 v4) v1 (zW x.1.1) (true&&Pq.fits v2&&Pq.fits v5))))))):=rfl
def pointS (k:Int) (s:ByteArray):ByteArray:=if 0<k then s.extract 0 ((s.size:Int)-k).toNat++⟨#[46]⟩++s.extract ((s.size:Int)-k).toNat s.size else s
def signS (neg:Bool) (s:ByteArray):ByteArray:=if neg=true then ⟨#[45]⟩++s else s
def decS (z k nz:Int):ByteArray:=signS (decide (nz<0∧z≠0)) (pointS k (padS k (txt (wOf z))))
theorem padS_size (k:Int) (s:ByteArray):(padS k s).size=(k+1-s.size).toNat+s.size:=by
  show (padS k s).data.size=_
  unfold padS
  simp
theorem sgnT_ok {z nz:Int} {ok:Bool} {s:ByteArray} (hz:z.natAbs<Pq.bp 32) (hs:s.size≤3000):(sgnT z nz ok s).wp (· = .tup [.one (.v (.string (signS (decide (nz<0∧z≠0)) s))),aB ok]):=by
  unfold sgnT
  simp only[T.wp]
  have hb:(Pq.bitn z.natAbs:Int)>0↔z≠0:=by
    have := @Pq.bitn_eq0 z.natAbs
    constructor
    · intro h e;rw[e]at h;simp[Pq.bitn_zero]at h
    · intro h;have:Pq.bitn z.natAbs≠0:=fun e=>h (by have:=this.1 e;omega)
      omega
  rw[zW_wOf hz]
  have e1:ByteArray.size (⟨#[45]⟩:ByteArray)=1:=rfl
  refine ⟨fun h=>⟨fun h2=>⟨?_,?_⟩,fun h2=>?_⟩,fun h=>?_⟩
  · rw[e1];show ((_:Nat):Int)≤9223372036854775807;omega
  · rw[decide_eq_true (show nz<0∧z≠0 from ⟨(cz_lt _ _).1 (of_decide_eq_true h),hb.1 (of_decide_eq_true h2)⟩)];rfl
  · rw[decide_eq_false (show ¬ (nz<0∧z≠0) from fun k=>of_decide_eq_false h2 (hb.2 k.2))];rfl
  · rw[decide_eq_false (show ¬ (nz<0∧z≠0) from fun k=>of_decide_eq_false h ((cz_lt _ _).2 k.1))];rfl
theorem decT_ok {z k nz:Int} {ok:Bool} (hz:z.natAbs<Pq.bp 32) (h0:0≤k) (hk:k≤20):(decT z k nz ok).wp (· = .tup [.one (.v (.string (decS z k nz))),aB ok]):=by
  unfold decT
  simp only[T.wp]
  have ht:=txt_size (wOf z)
  have hp:=padS_size k (txt (wOf z))
  unfold decS
  generalize padS k (txt (wOf z))=s at *
  generalize txt (wOf z)=u at *
  have hs1:s.size≤2000:=by omega
  have hs2:k<(s.size:Int):=by omega
  have e:IntKind.i64.wrap ((s.size:Int)-k)=(s.size:Int)-k:=IntWalk.i64_in _ (by omega)
  have e1:ByteArray.size (⟨#[46]⟩:ByteArray)=1:=rfl
  rw[e]
  refine ⟨⟨hk,by omega⟩,fun h=>⟨⟨by omega,by omega,by omega⟩,?_,⟨by omega,by omega,by omega⟩,?_,?_⟩,fun h=>?_⟩
  · rw[ByteArray.size_extract,e1];show ((_:Nat):Int)≤9223372036854775807;omega
  · rw[ByteArray.size_append,ByteArray.size_extract,ByteArray.size_extract,e1];show ((_:Nat):Int)≤9223372036854775807;omega
  · have hk':=of_decide_eq_true h
    have:pointS k s=s.extract (Int.toNat 0) ((s.size:Int)-k).toNat++⟨#[46]⟩++s.extract ((s.size:Int)-k).toNat (Int.toNat (s.size:Int)):=by
      unfold pointS;rw[if_pos hk',Int.toNat_natCast];rfl
    rw[←this]
    refine sgnT_ok hz ?_
    rw[this,ByteArray.size_append,ByteArray.size_append,ByteArray.size_extract,ByteArray.size_extract,e1];omega
  · have hk':=of_decide_eq_false h
    have:pointS k s=s:=by unfold pointS;rw[if_neg hk']
    rw[this]
    exact sgnT_ok hz (by omega)
def clampD (d:Int):Int:=if (20:Int)<(if (0:Int)>d then (0:Int) else d) then (20:Int) else (if (0:Int)>d then (0:Int) else d)
theorem clampD_in (d:Int):0≤clampD d∧clampD d≤20:=by unfold clampD;split <;> split <;> omega
def qdec (f:F) (k:Int):Int:=
  if ((zW f.1).natAbs:Int)*10^k.toNat%zW f.2*2≥zW f.2 then ((zW f.1).natAbs:Int)*10^k.toNat/zW f.2+1 else ((zW f.1).natAbs:Int)*10^k.toNat/zW f.2
theorem dec_bounds {n b:Int} {j m:Nat} (hn0:0≤n) (hb:0<b) (hnb:n.natAbs<2^m) (hbj:b.natAbs<2^j):(n/b).natAbs<2^m∧(n/b+1).natAbs<2^(m+1)∧(n%b).natAbs<2^j∧(n%b*2).natAbs<2^(j+1):=by
  have hq:=Nat.lt_of_le_of_lt (Int.natAbs_ediv_le_natAbs n b) hnb
  have hr0:=Int.emod_nonneg n (show b≠0 from by omega)
  have hr1:=Int.emod_lt_of_pos n hb
  have hm:0<2^m:=Nat.two_pow_pos m
  refine ⟨hq,?_,by omega,?_⟩
  · rw[Nat.pow_succ]
    have:=Int.natAbs_add_le (n/b) 1
    omega
  · rw[Nat.pow_succ];omega
theorem rdecimal_ok (x:Els [(true,cF),(false,.int .i64)]):(tr_rdecimal x).wp (· = ansA false .str (safeF 500 x.1) (decS (qdec x.1 (clampD x.2.1)) (clampD x.2.1) (zW x.1.1)) ⟨#[]⟩):=by
  rw[dec_shape]
  obtain ⟨f,d,u⟩:=x
  revert f d
  intro (f:F) (d:Int)
  simp only[T.wp,dup_wp]
  obtain ⟨c0,c1⟩:=clampD_in d
  have hc:(if (20:Int)<(if (0:Int)>d then (0:Int) else d) then (20:Int) else (if (0:Int)>d then (0:Int) else d))=clampD d:=rfl
  rw[hc]
  generalize clampD d=k at *
  have hall:List.all [f] (safeF 500)=safeF 500 f:=by simp
  rw[hall]
  refine ⟨by unfold lenOk;simp,fun h=>?_,fun h=>⟨⟨c0,c1⟩,⟨by omega,by omega⟩,?_⟩⟩
  · have h:safeF 500 f=false:=by simpa using h
    rw[h];rfl
  · have hsf:safeF 500 f=true:=by simpa using h
    obtain ⟨a1,a2,a3⟩:=safe_b (of_decide_eq_true hsf)
    rw[hsf]
    have ez:zW (false,f.1.2)=((zW f.1).natAbs:Int):=by
      unfold zW;rw[Pq.zv_abs];rfl
    have p10:((10:Int)^k.toNat).natAbs<2^100:=by
      rw[Int.natAbs_pow]
      exact Nat.lt_of_le_of_lt (Nat.pow_le_pow_right (by decide) (show k.toNat≤20 from by omega)) (by decide +kernel)
    have hp0:(0:Int)≤10^k.toNat:=Int.pow_nonneg (by decide)
    rw[ez,zW_wOf (pow10_lt (by omega))]
    unfold qdec
    have hn0:(0:Int)≤((zW f.1).natAbs:Int)*10^k.toNat:=Int.mul_nonneg (by omega) hp0
    have a1':((zW f.1).natAbs:Int).natAbs<2^500:=by rw[Int.natAbs_natCast];exact a1
    have hnb:(((zW f.1).natAbs:Int)*10^k.toNat).natAbs<2^600:=pow_mul_ez (j:=500) (k:=100) (n:=600) rfl a1' p10
    generalize ((zW f.1).natAbs:Int)*10^k.toNat=n at *
    generalize zW f.2=b at *
    have up : ∀ z:Int,z.natAbs<2^600→z.natAbs<2^1001:=fun z hz=>pow_to (j:=600) (k:=1001) hz (by decide)
    obtain ⟨d1,d2,d3,d4⟩:=dec_bounds hn0 a3 hnb a2
    have hq:(n/b).natAbs<2^600:=d1
    have hq1:(n/b+1).natAbs<2^1001:=pow_to (j:=600+1) (k:=1001) d2 (by decide)
    have hrb:(n%b*2).natAbs<2^1001:=pow_to (j:=500+1) (k:=1001) d4 (by decide)
    have hrw:(n%b).natAbs<2^1001:=pow_to (j:=500) (k:=1001) d3 (by decide)
    clear d1 d2 d3 d4
    have z2:zW (wOf 2)=2:=zW_wOf (i64_lt (by omega) (by omega))
    have z1:zW (wOf 1)=1:=zW_wOf (i64_lt (by omega) (by omega))
    rw[zW_b (up _ hnb),if_neg (show ¬ b=0 by omega),if_neg (show ¬ b=0 by omega),Int.tmod_eq_emod_of_nonneg hn0,Int.tdiv_eq_ediv_of_nonneg hn0,zW_b hrw,zW_b (up _ hq),z2,z1,zW_b hrb,fits_b (up _ hnb),fits_b hrb]
    refine ⟨fun hcz=>?_,fun hcz=>?_⟩
    · have hge:n%b*2≥b:=by
        have:=of_decide_eq_true hcz
        have:=cz_lt (n%b*2) b
        omega
      rw[if_pos hge]
      exact decT_ok (big_b hq1).1 c0 c1
    · have hlt:¬ n%b*2≥b:=by
        have:=of_decide_eq_false hcz
        have:=cz_lt (n%b*2) b
        omega
      rw[if_neg hlt]
      exact decT_ok (big_b (up _ hq)).1 c0 c1
noncomputable def con_rdecimal:Con Tryz.prog:=⟨36,[],_,cf_rdecimal,ans_con0 (E:=E17) (L:=lpDec) mixed Tryz.func36 (one_loop decL_ok (by kernel_rfl)) [(true,cF),(false,.int .i64)] false .str (fun x=>safeF 500 x.1) (fun x=>decS (qdec x.1 (clampD x.2.1)) (clampD x.2.1) (zW x.1.1)) (fun _=>⟨#[]⟩) fun x=>by rw[tr_rdecimal_eq];exact rdecimal_ok x⟩
noncomputable def E18:Env Tryz.prog:=⟨con_rdecimal::E17.con,E17.zero,E17.cod,E17.sure,E17.base,E17.frz⟩
theorem cf_trim (xs:Array Value) (w:World):(callFunc 84 xs).run Tryz.prog w=.ok (.enter 84 xs) w:=by kernel_rfl
theorem cf_pwide (xs:Array Value) (w:World):(callFunc 68 xs).run Tryz.prog w=.ok (.enter 68 xs) w:=by kernel_rfl
theorem cf_pfrom (xs:Array Value) (w:World):(callFunc 34 xs).run Tryz.prog w=.ok (.enter 34 xs) w:=by kernel_rfl
theorem cf_pwhole (xs:Array Value) (w:World):(callFunc 11 xs).run Tryz.prog w=.ok (.enter 11 xs) w:=by kernel_rfl
noncomputable def codU:Cod Tryz.prog:=⟨24,.int .u32,by kernel_rfl,⟨.int .u32 0,fun w=>by kernel_rfl⟩⟩
noncomputable def zeroU:Zero Tryz.prog:=⟨24,ck (.int .u32) (0:Int),[.int .u32 0],by kernel_rfl,fun w R σ=>.v rfl .nil⟩
noncomputable def E19:Env Tryz.prog:=⟨E18.con,zeroU::E18.zero,codU::E18.cod,E18.sure,E18.base,E18.frz⟩
abbrev spTrim:LSpec:=⟨21,[(0,false,.sl (.int .u32)),(3,false,.int .i64)],[],[],fun e=>match e with|.exit _=>[0,3]|_=>[]⟩
noncomputable def tr_trimL (x:LSpec.X spTrim×LSpec.Y spTrim):T (Rd spTrim):=
 .ite (decide (x.1.2.1>(0:Int)))
  (.get x.1.1 (IntKind.wrap .i64 (x.1.2.1-(1:Int))) (fun v0 =>
   .ite (v0==(0:Int))
    (.ret (.again (x.1.1,(IntKind.wrap .i64 (x.1.2.1-(1:Int)),())) ()))
    (.ret (.out (Go.Exit.exit (0:Nat)) [(.one (.ds (Cd.int .u32) x.1.1)),(.one (.v (.int .i64 x.1.2.1)))] ()))))
  (.ret (.out (Go.Exit.exit (0:Nat)) [(.one (.ds (Cd.int .u32) x.1.1)),(.one (.v (.int .i64 x.1.2.1)))] ()))
theorem tr_trimL_eq (x:LSpec.X spTrim×LSpec.Y spTrim):LSpec.round spTrim E19 (fun _=>none) (bodyOf Tryz.f84 0) x.1 x.2=tr_trimL x:=by kernel_rfl
def trimN (l:List Int):Nat→Nat
  | 0=>0
  | n+1=>if l[n]?=some 0 then trimN l n else n+1
theorem trimN_le (l:List Int) : ∀ n,trimN l n≤n
  | 0=>Nat.le_refl _
  | n+1=>by
    unfold trimN
    have:=trimN_le l n
    split <;> omega
def outTrim (x:LSpec.X spTrim) (y:LSpec.Y spTrim):T (Exit×List Av×LSpec.Y spTrim):=
  .need (0≤x.2.1∧x.2.1≤x.1.length∧lenOk x.1.length) (.ret (.exit 0,[.one (.ds (.int .u32) x.1),aI .i64 ((trimN x.1 x.2.1.toNat:Nat):Int)],y))
theorem trimL_core (l : List Int) (n : Int) (Q : Exit × List Av × LSpec.Y spTrim → Prop) (h : (outTrim (l, n, ()) ()).wp Q) : (tr_trimL ((l, n, ()), ())).wp fun r => match r with
      | .again x' y'=>x'.2.1.toNat<n.toNat∧(outTrim x' y').wp Q
      | .out e avs y'=>Q (e,avs,y'):=by
  unfold tr_trimL
  unfold outTrim at h ⊢
  simp only[T.wp]at h ⊢
  dsimp only [El,vts,spTrim]at h ⊢
  obtain ⟨⟨h0,h1,hl⟩,hq⟩:=h
  unfold lenOk at hl
  refine ⟨fun hlt=>?_,fun hge=>?_⟩
  · have hlt:=of_decide_eq_true hlt
    obtain ⟨m,rfl⟩ : ∃ m:Nat,n=(m:Int)+1:=⟨(n-1).toNat,by omega⟩
    have e:IntKind.i64.wrap ((m:Int)+1-1)=m:=by rw[IntWalk.i64_in _ (by omega)];omega
    rw[e]
    obtain ⟨v,hv⟩:=elem_at (l:=l) (i:=(m:Int)) (by omega) (by omega)
    rw[show ((m:Int)+1).toNat=m+1 from by omega,trimN]at hq
    refine ⟨v,by omega,hv,fun hz=>?_,fun hz=>?_⟩
    · have hz:v=0:=by simpa using hz
      rw[Int.toNat_natCast]at hv
      rw[if_pos (by rw[hv,hz])]at hq
      exact ⟨by omega,⟨by omega,by omega,hl⟩,by rw[Int.toNat_natCast];exact hq⟩
    · have hz:¬ v=0:=by simpa using hz
      rw[Int.toNat_natCast]at hv
      rw[if_neg (by rw[hv];simp[hz])]at hq
      exact hq
  · have hge:=of_decide_eq_false hge
    obtain rfl:n=0:=by omega
    exact hq
theorem trimL_ok:LoopOk Tryz.prog 0 (bodyOf Tryz.f84 0) (spTrim.run outTrim):=
  loop_ok (E:=E19) (L:=fun _=>none) mixed 0 (loops_none _ _ _) spTrim (Nat.zero_le _) outTrim (fun x _=>x.2.1.toNat) (by
    rintro ⟨l,n,⟨⟩⟩ ⟨⟩ Q h
    rw[tr_trimL_eq ((l,n,()),())]
    exact trimL_core l n Q h)
noncomputable def lpTrim:Loops:=oneL 2 (spTrim.run outTrim)
noncomputable def tr_trim (x:Els [(false,.sl (.int .u32))]):T Av:=
 .need ((0:El (Cd.int .i64))≤(↑(List.length (x.1)):Int)∧(↑(List.length (x.1)):Int)≤(↑(List.length (x.1)):El (Cd.int .i64))∧lenOk (List.length (x.1))) (.need ((0:Int)≤(0:Int)∧(0:Int)≤(↑(trimN (x.1) (Int.toNat (↑(List.length (x.1)):Int))):Int)∧(↑(trimN (x.1) (Int.toNat (↑(List.length (x.1)):Int))):Int)≤(↑(List.length (x.1)):Int)) (.ret (.one (.ds (Cd.int .u32) (List.drop (Int.toNat (0:Int)) (List.take (Int.toNat (↑(trimN (x.1) (Int.toNat (↑(List.length (x.1)):Int))):Int)) (x.1)))))))
theorem tr_trim_eq (x:Els [(false,.sl (.int .u32))]):fnP E19 lpTrim Tryz.f84 (encs [(false,.sl (.int .u32))] x)=tr_trim x:=by kernel_rfl
def trimmed (l:List Int):List Int:=l.take (trimN l l.length)
noncomputable def con_trim:Con Tryz.prog:=⟨84,[],_,cf_trim,val_con (E:=E19) (L:=lpTrim) mixed Tryz.func84 (one_loop trimL_ok (by kernel_rfl)) [(false,.sl (.int .u32))] (fun x=>lenOk (List.length x.1)) (fun x=>.one (.ds (.int .u32) (trimmed x.1))) fun x hx=>by
  rw[tr_trim_eq]
  obtain ⟨l,u⟩:=x
  revert l
  intro (l:List Int) (hx:lenOk l.length)
  unfold tr_trim
  simp only[T.wp]
  dsimp only [El]
  have:=trimN_le l l.length
  rw[Int.toNat_natCast,Int.toNat_natCast]
  exact ⟨⟨by omega,by omega,hx⟩,⟨by omega,by omega,by omega⟩,rfl⟩⟩
noncomputable def E20:Env Tryz.prog:=⟨con_trim::E19.con,E19.zero,E19.cod,E19.sure,E19.base,E19.frz⟩
abbrev spWide:LSpec:=⟨36,[(6,false,.sl (.int .u32)),(8,false,.int .i64)],[(4,0,0),(7,1,0)],[(27,cW),(27,cW)],fun _=>[]⟩
noncomputable def tr_pwideL (x:LSpec.X spWide×LSpec.Y spWide):T (Rd spWide):=
 .ite (decide (x.1.2.1<(↑(List.length x.1.1):Int)))
  (.get x.1.1 x.1.2.1 (fun v0 =>
   .need ((0:Int)≤x.1.2.1∧x.1.2.1<(↑(32:Nat):Int)) (.need (x.1.2.1<(32:Int)∧(0:Int)≤v0∧v0<(4294967296:Int)) (.ret (.again (x.1.1,(IntKind.wrap .i64 (x.1.2.1+(1:Int)),())) (x.2.1,((x.2.2.1.1,stA x.2.2.1.2 (Int.toNat x.1.2.1) v0),())))))))
  (.ret (.out (Go.Exit.exit (0:Nat)) [] (x.2.1,(x.2.2.1,()))))
theorem tr_pwideL_eq (x:LSpec.X spWide×LSpec.Y spWide):LSpec.round spWide E20 (fun _=>none) (bodyOf Tryz.f68 0) x.1 x.2=tr_pwideL x:=by kernel_rfl
def stL:Amt→List Int→Nat→Amt
  | a,[],_=>a
  | a,v::r,i=>stL (stA a i v) r (i+1)
def valL:List Int→Nat
  | []=>0
  | v::r=>v.toNat+4294967296*valL r
def Words (l:List Int):Prop := ∀ v∈l,0≤v∧v<4294967296
theorem stL_val : ∀ (l:List Int) (a:Amt) (i:Nat),a.1<Pq.bp i→i+l.length≤32→Words l→(stL a l i).1=a.1+Pq.bp i*valL l
  | [],a,i,h,hl,hw=>by simp[stL,valL]
  | v::r,a,i,h,hl,hw=>by
    rw[List.length_cons]at hl
    obtain ⟨h0,h1⟩:=hw v (by simp)
    have e:(stA a i v).1=a.1+Pq.bp i*v.toNat:=by
      rw[stA_val (by omega) h0 h1]
      unfold Pq.st
      have hlt:a.1<Pq.bp (i+1):=Nat.lt_of_lt_of_le h (Pq.bp_mono (by omega))
      rw[show Pq.lo a.1 i=a.1 from Nat.mod_eq_of_lt h,Nat.div_eq_of_lt hlt,Nat.mul_zero,Nat.add_zero]
    have hb:(stA a i v).1<Pq.bp (i+1):=by
      rw[e,Pq.bp_succ i]
      have h2:=Nat.mul_le_mul_left (Pq.bp i) (show v.toNat+1≤4294967296 by omega)
      rw[Nat.mul_add,Nat.mul_one]at h2
      omega
    rw[stL,stL_val r (stA a i v) (i+1) hb (by omega) (fun x hx=>hw x (by simp[hx])),e,valL,Pq.bp_succ i,Nat.mul_add,Nat.mul_assoc]
    omega
def outPw (x:LSpec.X spWide) (y:LSpec.Y spWide):T (Exit×List Av×LSpec.Y spWide):=
  .need (0≤x.2.1∧x.2.1≤x.1.length∧x.1.length≤32∧Words x.1) (.ret (.exit 0,[],(y.1,(y.2.1.1,stL y.2.1.2 (x.1.drop x.2.1.toNat) x.2.1.toNat),())))
theorem pwideL_core (l : List Int) (i : Int) (r : W) (b : Bool) (a : Amt) (Q : Exit × List Av × LSpec.Y spWide → Prop) (h : (outPw (l, i, ()) (r, (b, a), ())).wp Q) : (tr_pwideL ((l, i, ()), (r, (b, a), ()))).wp fun r => match r with
      | .again x' y'=>(x'.1.length-x'.2.1).toNat<(l.length-i).toNat∧(outPw x' y').wp Q
      | .out e avs y'=>Q (e,avs,y'):=by
  unfold tr_pwideL
  unfold outPw at h ⊢
  simp only[T.wp]at h ⊢
  dsimp only [El,vts,bts,spWide]at h ⊢
  obtain ⟨⟨h0,h1,h2,hw⟩,hq⟩:=h
  refine ⟨fun hlt=>?_,fun hge=>?_⟩
  · have hlt:=of_decide_eq_true hlt
    obtain ⟨v,hv⟩:=elem_at (l:=l) h0 hlt
    have hd:=drop_at h0 hv
    obtain ⟨v0,v1⟩:=hw v (List.mem_of_getElem? hv)
    rw[hd,stL,show i.toNat+1=(i+1).toNat from by omega]at hq
    refine ⟨v,h0,hv,⟨h0,by omega⟩,⟨by omega,v0,v1⟩,?_⟩
    rw[IntWalk.i64_in (i+1) (by omega)]
    exact ⟨by omega,⟨by omega,by omega,h2,hw⟩,hq⟩
  · have hge:=of_decide_eq_false hge
    rw[drop_end (by omega),stL]at hq
    exact hq
theorem pwideL_ok:LoopOk Tryz.prog 0 (bodyOf Tryz.f68 0) (spWide.run outPw):=
  loop_ok (E:=E20) (L:=fun _=>none) mixed 0 (loops_none _ _ _) spWide (Nat.zero_le _) outPw (fun x _=>(x.1.length-x.2.1).toNat) (by
    rintro ⟨l,i,⟨⟩⟩ ⟨r,⟨b,a⟩,⟨⟩⟩ Q h
    rw[tr_pwideL_eq ((l,i,()),(r,(b,a),()))]
    exact pwideL_core l i r b a Q h)
noncomputable def lpPw:Loops:=oneL 6 (spWide.run outPw)
noncomputable def tr_pwide (x:Els [(false,.bool),(false,.sl (.int .u32))]):T Av:=
 .need (lenOk (List.length x.2.1)) (.ite (decide ((↑(List.length (trimmed x.2.1)):Int)>(32:Int)))
   (.ret (.tup [(.agg [.v (.bool w0.1),.w w0.2]),(.one (.v (.bool (false))))]))
   (.ite (x.1)
    (.need ((0:El (Cd.int .i64))≤(0:Int)∧(0:Int)≤(↑(List.length (trimmed x.2.1)):El (Cd.int .i64))∧List.length (trimmed x.2.1)≤(32:Nat)∧Words (trimmed x.2.1)) (.ret (.tup [(.agg [.v (.bool (decide ((↑(List.length (trimmed x.2.1)):Int)>(0:Int)))),.w (stL w0.2 (List.drop (Int.toNat (0:Int)) (trimmed x.2.1)) (Int.toNat (0:Int)))]),(.one (.v (.bool (true))))])))
    (.need ((0:El (Cd.int .i64))≤(0:Int)∧(0:Int)≤(↑(List.length (trimmed x.2.1)):El (Cd.int .i64))∧List.length (trimmed x.2.1)≤(32:Nat)∧Words (trimmed x.2.1)) (.ret (.tup [(.agg [.v (.bool (false)),.w (stL w0.2 (List.drop (Int.toNat (0:Int)) (trimmed x.2.1)) (Int.toNat (0:Int)))]),(.one (.v (.bool (true))))])))))
theorem tr_pwide_eq (x:Els [(false,.bool),(false,.sl (.int .u32))]):fnP E20 lpPw Tryz.f68 (encs [(false,.bool),(false,.sl (.int .u32))] x)=tr_pwide x:=by kernel_rfl
def pW (neg:Bool) (t:List Int):W:=(neg&&decide (0<t.length),stL w0.2 t 0)
noncomputable def con_pwide:Con Tryz.prog:=⟨68,[],_,cf_pwide,ans_con (E:=E20) (L:=lpPw) mixed Tryz.func68 (one_loop pwideL_ok (by kernel_rfl)) [(false,.bool),(false,.sl (.int .u32))] (fun x=>lenOk (List.length x.2.1)∧Words x.2.1) true cW (fun x=>decide ((trimmed x.2.1).length≤32)) (fun x=>pW x.1 (trimmed x.2.1)) (fun _=>w0) fun x hx=>by
  rw[tr_pwide_eq]
  obtain ⟨n,l,u⟩:=x
  revert n l
  intro (n:Bool) (l:List Int) (hx:lenOk l.length∧Words l)
  unfold tr_pwide
  simp only[T.wp]
  dsimp only [El]
  have hw:Words (trimmed l):=fun v hv=>hx.2 v (List.mem_of_mem_take hv)
  refine ⟨hx.1,fun h=>?_,fun h=>⟨fun hn=>⟨?_,?_⟩,fun hn=>⟨?_,?_⟩⟩⟩
  · rw[decide_eq_false (by have:=of_decide_eq_true h;omega)];rfl
  · have:=of_decide_eq_false h
    exact ⟨by omega,by omega,by omega,hw⟩
  · subst hn
    rw[decide_eq_true (show (trimmed l).length≤32 by have:=of_decide_eq_false h;omega)]
    have e:decide (((trimmed l).length:Int)>0)=decide (0<(trimmed l).length):=by
      rw[decide_eq_decide];omega
    rw[e];rfl
  · have:=of_decide_eq_false h
    exact ⟨by omega,by omega,by omega,hw⟩
  · subst hn
    rw[decide_eq_true (show (trimmed l).length≤32 by have:=of_decide_eq_false h;omega)]
    rfl⟩
noncomputable def E21:Env Tryz.prog:=⟨con_pwide::E20.con,E20.zero,E20.cod,E20.sure,E20.base,E20.frz⟩
def mg (x:Nat):List Int:=if h:x=0 then [] else ((x%4294967296:Nat):Int)::mg (x/4294967296)
decreasing_by exact Nat.div_lt_self (by omega) (by omega)
theorem mg_zero:mg 0=[]:=by rw[mg];simp
theorem mg_pos {x:Nat} (h:x≠0):mg x=((x%4294967296:Nat):Int)::mg (x/4294967296):=by rw[mg,dif_neg h]
theorem mg_nil {x:Nat}:mg x=[]↔x=0:=by
  constructor
  · intro h
    by_cases h0:x=0
    · exact h0
    · rw[mg_pos h0]at h;cases h
  · rintro rfl;exact mg_zero
theorem mg_words (x:Nat):Words (mg x):=by
  induction x using Nat.strongRecOn with
  | ind x ih =>
    by_cases h:x=0
    · rw[h,mg_zero];intro v hv;cases hv
    · rw[mg_pos h]
      intro v hv
      rcases List.mem_cons.1 hv with rfl|hv
      · omega
      · exact ih (x/4294967296) (Nat.div_lt_self (by omega) (by omega)) v hv
theorem val_mg (x:Nat):valL (mg x)=x:=by
  induction x using Nat.strongRecOn with
  | ind x ih =>
    by_cases h:x=0
    · rw[h,mg_zero];rfl
    · rw[mg_pos h,valL,ih (x/4294967296) (Nat.div_lt_self (by omega) (by omega))]
      omega
theorem mg_len {n:Nat} : ∀ {x:Nat},x<Pq.bp n↔(mg x).length≤n:=by
  induction n with
  | zero =>
    intro x
    rw[Pq.bp_zero]
    constructor
    · intro h;rw[show x=0 by omega,mg_zero];simp
    · intro h
      have:mg x=[]:=List.length_eq_zero_iff.1 (by omega)
      rw[mg_nil.1 this];omega
  | succ n ih =>
    intro x
    by_cases h:x=0
    · subst h;rw[mg_zero];exact ⟨fun _=>by simp,fun _=>Pq.bp_pos _⟩
    · rw[mg_pos h,List.length_cons,Pq.bp_succ]
      have e:x<Pq.bp n*4294967296↔x/4294967296<Pq.bp n:=(Nat.div_lt_iff_lt_mul (by omega)).symm
      rw[e,ih]
      omega
theorem val_words {l:List Int} (h:Words l):valL l<Pq.bp l.length:=by
  induction l with
  | nil=>rw[valL];exact Pq.bp_pos _
  | cons v r ih =>
    have h1:=h v (by simp)
    have h2:=ih (fun x hx=>h x (by simp[hx]))
    rw[valL,List.length_cons,Pq.bp_succ]
    have:4294967296*valL r+4294967296≤Pq.bp r.length*4294967296:=by
      rw[←Nat.mul_succ,Nat.mul_comm];exact Nat.mul_le_mul_right _ h2
    omega
theorem val_app (l k:List Int):valL (l++k)=valL l+Pq.bp l.length*valL k:=by
  induction l with
  | nil=>simp[valL,Pq.bp_zero]
  | cons v r ih =>
    rw[List.cons_append,valL,ih,valL,List.length_cons,Pq.bp_succ,Nat.mul_add,Nat.add_assoc]
    congr 2
    rw[←Nat.mul_assoc,Nat.mul_comm 4294967296]
theorem trimN_cons (v:Int) (r:List Int) : ∀ n,trimN (v::r) (n+1)=if trimN r n=0 then (if v=0 then 0 else 1) else trimN r n+1
  | 0=>by
    rw[trimN,trimN]
    by_cases h:v=0
    · subst h;simp[trimN]
    · simp[h]
  | n+1=>by
    rw[trimN,trimN_cons v r n]
    conv=>rhs;rw[trimN]
    rw[List.getElem?_cons_succ]
    by_cases h:r[n]?=some 0
    · rw[if_pos h,if_pos h]
    · rw[if_neg h,if_neg h,if_neg (by omega)]
theorem trimmed_cons (v:Int) (r:List Int):trimmed (v::r)=if trimmed r=[] then (if v=0 then [] else [v]) else v::trimmed r:=by
  unfold trimmed
  rw[List.length_cons,trimN_cons]
  have hle:=trimN_le r r.length
  by_cases h:trimN r r.length=0
  · rw[if_pos h,h,List.take_zero,if_pos rfl]
    by_cases hv:v=0
    · rw[if_pos hv,if_pos hv];rfl
    · rw[if_neg hv,if_neg hv];rfl
  · rw[if_neg h,List.take_succ_cons,if_neg]
    intro e
    have:=congrArg List.length e
    rw[List.length_take,List.length_nil]at this
    omega
theorem trimmed_mg {l:List Int} (h:Words l):trimmed l=mg (valL l):=by
  induction l with
  | nil=>rw[valL,mg_zero];rfl
  | cons v r ih =>
    have h1:=h v (by simp)
    rw[trimmed_cons,ih (fun x hx=>h x (by simp[hx])),valL]
    by_cases h0:valL r=0
    · rw[if_pos (mg_nil.2 h0),h0,Nat.mul_zero,Nat.add_zero]
      by_cases hv:v=0
      · subst hv;rw[if_pos rfl];exact mg_zero.symm
      · rw[if_neg hv,mg_pos (by omega),show v.toNat/4294967296=0 by omega,mg_zero,show ((v.toNat%4294967296:Nat):Int)=v by omega]
    · rw[if_neg (fun e=>h0 (mg_nil.1 e)),mg_pos (show v.toNat+4294967296*valL r≠0 by omega)]
      rw[show (v.toNat+4294967296*valL r)/4294967296=valL r by omega,show (((v.toNat+4294967296*valL r)%4294967296:Nat):Int)=v by omega]
theorem pW_mg {n:Bool} {x:Nat} (h:x<Pq.bp 32):pW n (mg x)=(n&&decide (x≠0),⟨x,h⟩):=by
  unfold pW
  have e1:decide (0<(mg x).length)=decide (x≠0):=by
    rw[decide_eq_decide]
    constructor
    · intro hl h0;rw[h0,mg_zero]at hl;simp at hl
    · intro h0
      rcases Nat.eq_zero_or_pos (mg x).length with h'|h'
      · exact absurd (mg_nil.1 (List.length_eq_zero_iff.1 h')) h0
      · exact h'
  have e2:(stL w0.2 (mg x) 0).1=x:=by
    rw[stL_val (mg x) w0.2 0 (by rw[Pq.bp_zero];show 0<1;omega) (by have:=mg_len.1 h;omega) (mg_words x),val_mg,Pq.bp_zero]
    show 0+1*x=x
    omega
  rw[e1]
  exact Prod.ext rfl (Subtype.ext e2)
theorem val_range (x:Nat) : ∀ n,valL ((List.range n).map fun j=>((Pq.wd x j:Nat):Int))=Pq.lo x n
  | 0=>by simp[valL,Pq.lo_zero]
  | n+1=>by
    rw[List.range_succ,List.map_append,val_app,val_range x n,List.length_map,List.length_range,Pq.lo_succ]
    simp[valL]
noncomputable def tr_pfrom (x:Els [(false,.int .i64)]):T Av:=
 .ite (decide (x.1<(0:Int)))
  (.need (lenOk (List.length [IntKind.wrap .u32 (IntKind.wrap .u64 ((0:Int)-IntKind.wrap .u64 (x.1))),IntKind.wrap .u32 (Int.fdiv (IntKind.wrap .u64 ((0:Int)-IntKind.wrap .u64 (x.1))) ((2:Int)^Min.min (Int.toNat (32:Int)) (IntKind.bits .u64)))])∧Words [IntKind.wrap .u32 (IntKind.wrap .u64 ((0:Int)-IntKind.wrap .u64 (x.1))),IntKind.wrap .u32 (Int.fdiv (IntKind.wrap .u64 ((0:Int)-IntKind.wrap .u64 (x.1))) ((2:Int)^Min.min (Int.toNat (32:Int)) (IntKind.bits .u64)))]) (.ite (decide (List.length (trimmed [IntKind.wrap .u32 (IntKind.wrap .u64 ((0:Int)-IntKind.wrap .u64 (x.1))),IntKind.wrap .u32 (Int.fdiv (IntKind.wrap .u64 ((0:Int)-IntKind.wrap .u64 (x.1))) ((2:Int)^Min.min (Int.toNat (32:Int)) (IntKind.bits .u64)))])≤(32:Nat)))
    (.lt (pW (decide (x.1<(0:Int))) (trimmed [IntKind.wrap .u32 (IntKind.wrap .u64 ((0:Int)-IntKind.wrap .u64 (x.1))),IntKind.wrap .u32 (Int.fdiv (IntKind.wrap .u64 ((0:Int)-IntKind.wrap .u64 (x.1))) ((2:Int)^Min.min (Int.toNat (32:Int)) (IntKind.bits .u64)))])) (fun v0 =>
     .ret (.agg [.v (.bool v0.1),.w v0.2])))
    (.ret (.agg [.v (.bool w0.1),.w w0.2]))))
  (.need (lenOk (List.length [IntKind.wrap .u32 (IntKind.wrap .u64 (x.1)),IntKind.wrap .u32 (Int.fdiv (IntKind.wrap .u64 (x.1)) ((2:Int)^Min.min (Int.toNat (32:Int)) (IntKind.bits .u64)))])∧Words [IntKind.wrap .u32 (IntKind.wrap .u64 (x.1)),IntKind.wrap .u32 (Int.fdiv (IntKind.wrap .u64 (x.1)) ((2:Int)^Min.min (Int.toNat (32:Int)) (IntKind.bits .u64)))]) (.ite (decide (List.length (trimmed [IntKind.wrap .u32 (IntKind.wrap .u64 (x.1)),IntKind.wrap .u32 (Int.fdiv (IntKind.wrap .u64 (x.1)) ((2:Int)^Min.min (Int.toNat (32:Int)) (IntKind.bits .u64)))])≤(32:Nat)))
    (.lt (pW (decide (x.1<(0:Int))) (trimmed [IntKind.wrap .u32 (IntKind.wrap .u64 (x.1)),IntKind.wrap .u32 (Int.fdiv (IntKind.wrap .u64 (x.1)) ((2:Int)^Min.min (Int.toNat (32:Int)) (IntKind.bits .u64)))])) (fun v0 =>
     .ret (.agg [.v (.bool v0.1),.w v0.2])))
    (.ret (.agg [.v (.bool w0.1),.w w0.2]))))
theorem tr_pfrom_eq (x:Els [(false,.int .i64)]):fnP E21 (fun _=>none) Tryz.f34 (encs [(false,.int .i64)] x)=tr_pfrom x:=by kernel_rfl
theorem trim_two (a b:Int):trimmed [a,b]=if b=0 then (if a=0 then [] else [a]) else [a,b]:=by
  unfold trimmed
  by_cases hb:b=0
  · by_cases ha:a=0
    · simp[trimN,ha,hb]
    · simp[trimN,ha,hb]
  · simp[trimN,hb]
theorem two_words {a b x:Int} (ha:0≤a∧a<4294967296) (hb:0≤b∧b<4294967296) (hx:(x.natAbs:Int)=a+4294967296*b) (hf:x.natAbs<Pq.bp 32):pW (decide (x<0)) (trimmed [a,b])=wOf x:=by
  have hw : ∀ t:List Int,t.length≤2→Words t→(stL w0.2 t 0).1=valL t:=fun t h1 h2=>by
    have:=stL_val t w0.2 0 (by decide) (by omega) h2
    rw[this]
    show 0+Pq.bp 0*valL t=valL t
    rw[Pq.bp_zero];omega
  have fin : ∀ t:List Int,t.length≤2→Words t→valL t=x.natAbs→(0<t.length↔x≠0)→pW (decide (x<0)) t=wOf x:=fun t h1 h2 h3 h4=>by
    unfold pW wOf
    rw[dif_pos hf]
    refine Prod.ext ?_ (Subtype.ext ((hw t h1 h2).trans h3))
    by_cases hn:x<0
    · simp[hn,h4.2 (by omega)]
    · simp[hn]
  rw[trim_two]
  by_cases h0:b=0
  · rw[if_pos h0]
    by_cases h1:a=0
    · rw[if_pos h1]
      exact fin [] (by simp) (fun v hv=>by cases hv) (by simp[valL];omega) (by simp;omega)
    · rw[if_neg h1]
      exact fin [a] (by simp) (fun v hv=>by rw[List.mem_singleton]at hv;subst hv;exact ha) (by simp[valL];omega) (by simp;omega)
  · rw[if_neg h0]
    exact fin [a,b] (by simp) (fun v hv=>by
      rcases List.mem_cons.1 hv with rfl|hv
      · exact ha
      · rw[List.mem_singleton]at hv;subst hv;exact hb) (by simp only[valL];omega) (by simp;omega)
noncomputable def con_pfrom:Con Tryz.prog:=⟨34,[],_,cf_pfrom,val_con (E:=E21) mixed Tryz.func34 no_loops [(false,.int .i64)] (fun x=>in64 x.1) (fun x=>.agg (ck cW (wOf x.1))) fun x hx=>by
  rw[tr_pfrom_eq]
  obtain ⟨x,u⟩:=x
  revert x
  intro (x:Int) (hx:in64 x)
  obtain ⟨h0,h1⟩:=hx
  have hf:=i64_lt h0 h1
  unfold tr_pfrom
  simp only[T.wp]
  dsimp only [El]
  have p32:(2:Int)^min (Int.toNat 32) (IntKind.bits .u64)=4294967296:=by decide
  rw[p32]
  have key : ∀ y:Int,0≤y→y<18446744073709551616→IntKind.u32.wrap y=y%4294967296∧IntKind.u32.wrap (y.fdiv 4294967296)=y/4294967296:=fun y hy0 hy1=>by
    rw[Int.fdiv_eq_ediv_of_nonneg _ (by decide)]
    constructor
    · rw[IntKind.wrap_u32]
    · rw[IntKind.wrap_u32];omega
  refine ⟨fun h=>?_,fun h=>?_⟩
  · have hn:=of_decide_eq_true h
    have e:IntKind.u64.wrap (0-IntKind.u64.wrap x) = -x:=by rw[IntKind.wrap_u64,IntKind.wrap_u64];omega
    rw[e]
    obtain ⟨k1,k2⟩:=key (-x) (by omega) (by omega)
    rw[k1,k2]
    have tw:=two_words (a := -x%4294967296) (b := -x/4294967296) (x:=x) ⟨by omega,by omega⟩ ⟨by omega,by omega⟩ (by omega) hf
    refine ⟨⟨len2 _ _,fun v hv=>?_⟩,fun _=>?_,fun hl=>?_⟩
    · rcases List.mem_cons.1 hv with rfl|hv
      · omega
      · rw[List.mem_singleton]at hv;subst hv;omega
    · rw[tw];rfl
    · exfalso
      have:=of_decide_eq_false hl
      have h2:(trimmed [-x%4294967296,-x/4294967296]).length≤2:=by unfold trimmed;rw[List.length_take];simp;omega
      omega
  · have hn:=of_decide_eq_false h
    have e:IntKind.u64.wrap x=x:=by rw[IntKind.wrap_u64];omega
    rw[e]
    obtain ⟨k1,k2⟩:=key x (by omega) (by omega)
    rw[k1,k2]
    have tw:=two_words (a:=x%4294967296) (b:=x/4294967296) (x:=x) ⟨by omega,by omega⟩ ⟨by omega,by omega⟩ (by omega) hf
    refine ⟨⟨len2 _ _,fun v hv=>?_⟩,fun _=>?_,fun hl=>?_⟩
    · rcases List.mem_cons.1 hv with rfl|hv
      · omega
      · rw[List.mem_singleton]at hv;subst hv;omega
    · rw[tw];rfl
    · exfalso
      have:=of_decide_eq_false hl
      have h2:(trimmed [x%4294967296,x/4294967296]).length≤2:=by unfold trimmed;rw[List.length_take];simp;omega
      omega⟩
noncomputable def E22:Env Tryz.prog:=⟨con_pfrom::E21.con,E21.zero,E21.cod,E21.sure,E21.base,E21.frz⟩
noncomputable def con_pwhole:Con Tryz.prog:=⟨11,[],_,cf_pwhole,val_con (E:=E22) mixed Tryz.func11 no_loops [(false,.int .i64)] (fun x=>in64 x.1) (fun x=>.agg (ck cF (wOf x.1,wOf 1))) fun x hx=>by
  have e:fnP E22 (fun _=>none) Tryz.f11 (encs [(false,.int .i64)] x)=.need (in64 x.1) (.need (in64 1) (.ret (.agg (ck cF (wOf x.1,wOf 1))))):=by kernel_rfl
  rw[e]
  exact ⟨hx,⟨by omega,by omega⟩,rfl⟩⟩
noncomputable def E23:Env Tryz.prog:=⟨con_pwhole::E22.con,E22.zero,E22.cod,E22.sure,E22.base,E22.frz⟩
end Go.Proofs.YtmcbljjgkmkhcaaGreatDoor
namespace Ax
open Go Go.RowKit
def manyL (l:List (Nat×(St→T (Exit×St)))):Loops:=fun k=>(l.find? fun p=>p.1==k).map (·.2)
theorem find_key {β:Type _} : ∀ (l:List (Nat×β)) (i:Nat) (p:Nat×β),(l.map (·.1)).Nodup→l[i]?=some p→l.find? (fun q=>q.1==p.1)=some p
  | [],i,p,_,h=>by simp at h
  | q::r,0,p,_,h=>by
    obtain rfl:q=p:=by simpa using h
    simp
  | q::r,i+1,p,hn,h=>by
    have h':r[i]?=some p:=by simpa using h
    have hm:p.1∈r.map (·.1):=List.mem_map.2 ⟨p,List.mem_of_getElem? h',rfl⟩
    have hne:q.1≠p.1:=fun e=>(List.nodup_cons.1 hn).1 (by show q.1∈_;rw[e];exact hm)
    rw[List.find?_cons_of_neg (by simpa using hne)]
    exact find_key r i p (List.nodup_cons.1 hn).2 h'
def keysOf (fn:Func):List Nat:=match fn.body with|some c=>(loopsOf c).map Code.first|none=>[]
theorem many_loops {P:Program} {n:Nat} {fn:Func} {l:List (Nat×(St→T (Exit×St)))} (hk:keysOf fn=l.map (·.1)) (hn:(l.map (·.1)).Nodup)
    (h : ∀ (i:Nat) p,l[i]?=some p→LoopOk P n (bodyOf fn i) p.2) : ∀ c,fn.body=some c→LoopsOk P n (manyL l) c:=by
  intro c hc
  unfold keysOf at hk
  rw[hc]at hk
  replace hk:(loopsOf c).map Code.first=l.map (·.1):=hk
  refine loops_of fun b hb r hr=>?_
  obtain ⟨i,hi,rfl⟩:=List.getElem_of_mem hb
  have hl:(loopsOf c).length=l.length:=by have:=congrArg List.length hk;simpa using this
  have hp:l[i]?=some (l[i]'(by omega)):=List.getElem?_eq_getElem _
  have hkey:Code.first (loopsOf c)[i]=(l[i]'(by omega)).1:=by
    have h1:((loopsOf c).map Code.first)[i]?=(l.map (·.1))[i]?:=by rw[hk]
    rw[List.getElem?_map,List.getElem?_map,hp,List.getElem?_eq_getElem hi]at h1
    simpa using h1
  unfold manyL at hr
  rw[hkey,find_key l i _ hn hp]at hr
  cases hr
  have hb:bodyOf fn i=(loopsOf c)[i]:=by
    unfold bodyOf
    rw[hc]
    simp[hi]
  rw[←hb]
  exact h i _ hp
def innerOf (c:Code) (i:Nat):Code:=(loopsOf c).getD i .skip
theorem inner_loops {P:Program} {n:Nat} {c:Code} {l:List (Nat×(St→T (Exit×St)))} (hk:(loopsOf c).map Code.first=l.map (·.1)) (hn:(l.map (·.1)).Nodup)
    (h : ∀ (i:Nat) p,l[i]?=some p→LoopOk P n (innerOf c i) p.2):LoopsOk P n (manyL l) c:=
  many_loops (fn:={ (default:Func) with body:=some c }) hk hn (fun i p hp=>by
    have:=h i p hp
    unfold innerOf at this
    exact this) c rfl
theorem inner_one {P:Program} {n k1:Nat} {c:Code} {r1:St→T (Exit×St)} (hk:(loopsOf c).map Code.first=[k1]) (h1:LoopOk P n (innerOf c 0) r1):LoopsOk P n (manyL [(k1,r1)]) c:=
  inner_loops hk (by simp) fun i p hp=>by
    match i,hp with
    | 0,hp=>cases hp;exact h1
    | i+1,hp=>simp at hp
end Ax
namespace Go.Proofs.YtmcbljjgkmkhcaaGreatDoor
open Go.RowKit Ax
theorem cf_pof (xs:Array Value) (w:World):(callFunc 41 xs).run Tryz.prog w=.ok (.enter 41 xs) w:=by kernel_rfl
theorem cf_pneg (xs:Array Value) (w:World):(callFunc 67 xs).run Tryz.prog w=.ok (.enter 67 xs) w:=by kernel_rfl
abbrev spOf:RSpec:=⟨18,[(4,false,.int .i64)],[(1,0,0)],[(27,cW)],fun _=>[],3,24,.int .u32,false,fun _=>3⟩
noncomputable def tr_pofL (x:RSpec.X spOf×RSpec.Y spOf×(List (El (RSpec.c spOf))×Nat)):T (RRd spOf):=
 .ite (decide (x.1.1<(32:Int)))
  (.need ((0:Int)≤x.1.1∧x.1.1<(↑(32:Nat):Int)) (.need (x.1.1<(32:Int)) (.need (List.length x.2.2.1=List.length x.2.2.1∧x.2.2.2=x.2.2.2∧(List.length x.2.2.1+List.length [(↑(Pq.wd x.2.1.1.2.1 (Int.toNat x.1.1)):Int)])*(nat_lit 3+(1:Nat))≤(140737488355328:Nat)∧List.length x.2.2.1+List.length [(↑(Pq.wd x.2.1.1.2.1 (Int.toNat x.1.1)):Int)]≤Go.maxLen) (.and
      (.need (List.length x.2.2.1+List.length [(↑(Pq.wd x.2.1.1.2.1 (Int.toNat x.1.1)):Int)]=List.length (x.2.2.1++[(↑(Pq.wd x.2.1.1.2.1 (Int.toNat x.1.1)):Int)])∧x.2.2.2=x.2.2.2) (.ret (.again (IntKind.wrap .i64 (x.1.1+(1:Int)),()) (x.2.1.1,()) (some ((x.2.2.1++[(↑(Pq.wd x.2.1.1.2.1 (Int.toNat x.1.1)):Int)],x.2.2.2))))))
      (.up (List.length x.2.2.1+List.length [(↑(Pq.wd x.2.1.1.2.1 (Int.toNat x.1.1)):Int)]) (fun v0 =>
       .need (List.length x.2.2.1+List.length [(↑(Pq.wd x.2.1.1.2.1 (Int.toNat x.1.1)):Int)]=List.length (x.2.2.1++[(↑(Pq.wd x.2.1.1.2.1 (Int.toNat x.1.1)):Int)])∧v0=v0) (.ret (.again (IntKind.wrap .i64 (x.1.1+(1:Int)),()) (x.2.1.1,()) (some ((x.2.2.1++[(↑(Pq.wd x.2.1.1.2.1 (Int.toNat x.1.1)):Int)],v0)))))))))))
  (.need (List.length x.2.2.1=List.length x.2.2.1∧x.2.2.2=x.2.2.2) (.ret (.out (Go.Exit.exit (0:Nat)) [] (x.2.1.1,()) (some x.2.2))))
theorem tr_pofL_eq (x:RSpec.X spOf×RSpec.Y spOf×(List (El (RSpec.c spOf))×Nat)):RSpec.round spOf E23 (fun _=>none) (bodyOf Tryz.f41 0) x.1 x.2.1 (some x.2.2)=tr_pofL x:=by kernel_rfl
noncomputable def tr_pofL0 (x:RSpec.X spOf×RSpec.Y spOf):T (RRd spOf):=
 .ite (decide (x.1.1<(32:Int)))
  (.need ((0:Int)≤x.1.1∧x.1.1<(↑(32:Nat):Int)) (.need (x.1.1<(32:Int)) (.need (List.length [(↑(Pq.wd x.2.1.2.1 (Int.toNat x.1.1)):Int)]*(nat_lit 3+(1:Nat))≤(140737488355328:Nat)∧List.length [(↑(Pq.wd x.2.1.2.1 (Int.toNat x.1.1)):Int)]≤Go.maxLen) (.up (List.length [(↑(Pq.wd x.2.1.2.1 (Int.toNat x.1.1)):Int)]) (fun v0 =>
      .need (List.length [(↑(Pq.wd x.2.1.2.1 (Int.toNat x.1.1)):Int)]=List.length [(↑(Pq.wd x.2.1.2.1 (Int.toNat x.1.1)):Int)]∧v0=v0) (.ret (.again (IntKind.wrap .i64 (x.1.1+(1:Int)),()) (x.2.1,()) (some (([(↑(Pq.wd x.2.1.2.1 (Int.toNat x.1.1)):Int)],v0))))))))))
  (.need (True) (.ret (.out (Go.Exit.exit (0:Nat)) [] (x.2.1,()) none)))
theorem tr_pofL0_eq (x:RSpec.X spOf×RSpec.Y spOf):RSpec.round spOf E23 (fun _=>none) (bodyOf Tryz.f41 0) x.1 x.2 none=tr_pofL0 x:=by kernel_rfl
def wfrom (x i:Nat):List Int:=(List.range (32-i)).map fun j=>((Pq.wd x (i+j):Nat):Int)
theorem wfrom_step (x:Nat) {i:Nat} (h:i<32):wfrom x i=((Pq.wd x i:Nat):Int)::wfrom x (i+1):=by
  unfold wfrom
  rw[show 32-i=(32-(i+1))+1 by omega,List.range_succ_eq_map,List.map_cons,List.map_map,Nat.add_zero]
  congr 1
  refine List.map_congr_left fun j _=>?_
  simp only[Function.comp]
  rw[show i+j.succ=i+1+j by omega]
theorem wfrom_end (x:Nat) {i:Nat} (h:32≤i):wfrom x i=[]:=by
  unfold wfrom
  rw[show 32-i=0 by omega];rfl
theorem words_wfrom (x i:Nat):Words (wfrom x i):=fun v hv=>by
  obtain ⟨j,_,rfl⟩:=List.mem_map.1 hv
  have:=Pq.wd_lt x (i+j)
  omega
theorem val_wfrom {x:Nat} (h:x<Pq.bp 32):valL (wfrom x 0)=x:=by
  unfold wfrom
  simp only[Nat.zero_add,Nat.sub_zero]
  rw[val_range]
  exact Nat.mod_eq_of_lt h
def outOf (x:RSpec.X spOf) (y:RSpec.Y spOf) (g:RSpec.G spOf):T (Exit×List Av×RSpec.Y spOf×RSpec.G spOf):=
  match g with
  | none=>.need (x.1=0) (.up 0 fun k=>.ret (.exit 0,[],y,some (wfrom y.1.2.1 0,k)))
  | some r=>.need (0≤x.1∧x.1≤32∧(r.1.length:Int)=x.1) (.up 0 fun k=>.ret (.exit 0,[],y,some ((r.1:List Int)++wfrom y.1.2.1 x.1.toNat,k)))
theorem pofL_core (i : Int) (y : W) (xs : List Int) (cap : Nat) (Q : Exit × List Av × RSpec.Y spOf × RSpec.G spOf → Prop) (h : (outOf (i, ()) (y, ()) (some (xs, cap))).wp Q) : (tr_pofL ((i, ()), (y, ()), (xs, cap))).wp fun r => match r with
      | .again x' y' g'=>(32-x'.1).toNat<(32-i).toNat∧(outOf x' y' g').wp Q
      | .out e avs y' g'=>Q (e,avs,y',g'):=by
  unfold tr_pofL
  unfold outOf at h ⊢
  simp only[T.wp]at h ⊢
  dsimp only [El,vts,spOf]at h ⊢
  obtain ⟨⟨h0,h1,h2⟩,hq⟩:=h
  refine ⟨fun hlt=>?_,fun hge=>?_⟩
  · have hlt:=of_decide_eq_true hlt
    rw[IntWalk.i64_in (i+1) (by omega)]
    rw[wfrom_step y.2.1 (show i.toNat<32 by omega),show i.toNat+1=(i+1).toNat by omega]at hq
    simp only[List.length_append,List.length_cons,List.length_nil,Go.maxLen,List.append_assoc,List.singleton_append,List.cons_append,List.nil_append]at hq ⊢
    exact ⟨⟨by omega,by omega⟩,by omega,⟨trivial,trivial,by omega,by omega⟩,⟨⟨trivial,trivial⟩,by omega,⟨by omega,by omega,by omega⟩,hq⟩,fun k hk=>⟨⟨trivial,trivial⟩,by omega,⟨by omega,by omega,by omega⟩,hq⟩⟩
  · have hge:=of_decide_eq_false hge
    obtain rfl:i=32:=by omega
    rw[show (32:Int).toNat=32 from rfl,wfrom_end _ (Nat.le_refl _),List.append_nil]at hq
    exact ⟨⟨trivial,trivial⟩,hq cap (Nat.zero_le _)⟩
theorem pofL_core0 (i : Int) (y : W) (Q : Exit × List Av × RSpec.Y spOf × RSpec.G spOf → Prop) (h : (outOf (i, ()) (y, ()) none).wp Q) : (tr_pofL0 ((i, ()), (y, ()))).wp fun r => match r with
      | .again x' y' g'=>(32-x'.1).toNat<(32-i).toNat∧(outOf x' y' g').wp Q
      | .out e avs y' g'=>Q (e,avs,y',g'):=by
  unfold tr_pofL0
  unfold outOf at h ⊢
  simp only[T.wp]at h ⊢
  dsimp only [El,vts,spOf]at h ⊢
  obtain ⟨h0,hq⟩:=h
  subst h0
  rw[wfrom_step y.2.1 (show 0<32 by omega)]at hq
  refine ⟨fun _=>?_,fun hge=>by simp at hge⟩
  rw[IntWalk.i64_in ((0:Int)+1) (by omega)]
  simp only[List.length_cons,List.length_nil,Go.maxLen]at hq ⊢
  exact ⟨⟨by omega,by omega⟩,by omega,⟨by omega,by omega⟩,fun k hk=>⟨⟨trivial,trivial⟩,by omega,⟨by omega,by omega,by omega⟩,hq⟩⟩
theorem pofL_ok:LoopOk Tryz.prog 0 (bodyOf Tryz.f41 0) (spOf.run outOf):=
  loopR_ok (E:=E23) (L:=fun _=>none) mixed 0 (loops_none _ _ _) spOf (Nat.zero_le _) outOf (fun x _ _=>(32-x.1).toNat) (by
    rintro ⟨i,⟨⟩⟩ ⟨y,⟨⟩⟩ g Q h
    match g,h with
    | some (xs,cap),h =>
      rw[tr_pofL_eq ((i,()),(y,()),(xs,cap))]
      exact pofL_core i y xs cap Q h
    | none,h =>
      rw[tr_pofL0_eq ((i,()),(y,()))]
      exact pofL_core0 i y Q h)
noncomputable def lpOf:Loops:=oneL 3 (spOf.run outOf)
noncomputable def E23f:Env Tryz.prog:=E23.fz [(6,[3])]
noncomputable def tr_pof (x:Els [(true,cW)]):T Av:=
 .need (True) (.need ((0:Int)=(0:El (Cd.int .i64))) (.up ((0:Nat)) (fun v0 =>
    .need (List.length (wfrom x.1.2.1 (0:Nat))≤List.length (wfrom x.1.2.1 (0:Nat))) (.need (lenOk (List.length (List.take (List.length (wfrom x.1.2.1 (0:Nat))) (wfrom x.1.2.1 (0:Nat))))) (.ret (.one (.ds (Cd.int .u32) (trimmed (List.take (List.length (wfrom x.1.2.1 (0:Nat))) (wfrom x.1.2.1 (0:Nat)))))))))))
theorem tr_pof_eq (x:Els [(true,cW)]):fnP E23f lpOf Tryz.f41 (encs [(true,cW)] x)=tr_pof x:=by kernel_rfl
noncomputable def con_pof:Con Tryz.prog:=⟨41,[],_,cf_pof,tot_con (E:=E23f) (L:=lpOf) mixed Tryz.func41 (one_loop pofL_ok (by kernel_rfl)) [(true,cW)] (fun x=>.one (.ds (.int .u32) (mg x.1.2.1))) fun x=>by
  rw[tr_pof_eq]
  obtain ⟨⟨b,a⟩,u⟩:=x
  revert b a
  intro (b:Bool) (a:Amt)
  unfold tr_pof
  simp only[T.wp]
  try dsimp only [El]
  have hl:(wfrom a.1 0).length=32:=by unfold wfrom;simp
  have ht:List.take (wfrom a.1 0).length (wfrom a.1 0)=wfrom a.1 0:=List.take_length
  refine ⟨trivial,trivial,fun k _=>⟨Nat.le_refl _,by rw[ht,hl];unfold lenOk;omega,?_⟩⟩
  rw[ht,trimmed_mg (words_wfrom _ _),val_wfrom a.2]⟩
noncomputable def E25:Env Tryz.prog:=E23.add [con_pof]
theorem cf_psub (xs:Array Value) (w:World):(callFunc 133 xs).run Tryz.prog w=.ok (.enter 133 xs) w:=by kernel_rfl
theorem cf_pcmp (xs:Array Value) (w:World):(callFunc 86 xs).run Tryz.prog w=.ok (.enter 86 xs) w:=by kernel_rfl
theorem cf_pbits (xs:Array Value) (w:World):(callFunc 114 xs).run Tryz.prog w=.ok (.enter 114 xs) w:=by kernel_rfl
theorem cf_pshl (xs:Array Value) (w:World):(callFunc 153 xs).run Tryz.prog w=.ok (.enter 153 xs) w:=by kernel_rfl
theorem cf_pdivmod (xs:Array Value) (w:World):(callFunc 116 xs).run Tryz.prog w=.ok (.enter 116 xs) w:=by kernel_rfl
theorem cf_pgcd (xs:Array Value) (w:World):(callFunc 115 xs).run Tryz.prog w=.ok (.enter 115 xs) w:=by kernel_rfl
theorem cf_ptiny (xs:Array Value) (w:World):(callFunc 85 xs).run Tryz.prog w=.ok (.enter 85 xs) w:=by kernel_rfl
theorem cf_pcommon (xs:Array Value) (w:World):(callFunc 131 xs).run Tryz.prog w=.ok (.enter 131 xs) w:=by kernel_rfl
abbrev cM:Cd:=.sl (.int .u32)
abbrev spSub:RSpec:=⟨44,[(0,false,cM),(1,false,cM),(6,false,.int .i64),(7,false,.int .i64)],[],[],fun _=>[],5,24,.int .u32,false,fun _=>5⟩
abbrev spCmp:LSpec:=⟨41,[(0,false,cM),(1,false,cM),(5,false,.int .i64)],[],[],fun e=>match e with|.ret=>[4]|_=>[]⟩
abbrev spBits:LSpec:=⟨25,[(3,false,.int .i64),(4,false,.int .u32)],[],[],fun e=>match e with|.exit _=>[3]|_=>[]⟩
abbrev spShl:RSpec:=⟨61,[(0,false,cM),(1,false,.int .i64),(6,false,.int .i64)],[],[],fun _=>[],5,24,.int .u32,true,fun _=>5⟩
abbrev spDiv:RSpec:=⟨56,[(1,false,cM),(8,false,cM),(9,false,.int .i64)],[],[],fun e=>match e with|.exit _=>[8]|_=>[],7,24,.int .u32,true,fun _=>7⟩
abbrev spGcd:LSpec:=⟨23,[(5,false,cM),(6,false,cM)],[],[],fun e=>match e with|.exit _=>[5]|_=>[]⟩
abbrev spTiny:LSpec:=⟨73,[(5,false,.int .i64)],[(1,0,0)],[(29,cF)],fun e=>match e with|.ret=>[2,3,4]|_=>[]⟩
abbrev spComm:LSpec:=⟨20,[(0,false,.int .i64),(1,false,.int .i64)],[],[],fun e=>match e with|.exit _=>[0]|_=>[]⟩
theorem w_u64 {z:Int} (h:0≤z∧z<18446744073709551616):IntKind.u64.wrap z=z:=IntWalk.u64_in _ (by omega)
theorem val_set {row:List Int} {p:Nat} {v old:Int} (hw:Words row) (hv:0≤v) (h:row[p]?=some old):(valL (row.set p v):Int)=valL row+Pq.bp p*(v-old):=by
  induction row generalizing p with
  | nil=>simp at h
  | cons x r ih =>
    have hx:=hw x (by simp)
    cases p with
    | zero =>
      simp only[List.getElem?_cons_zero,Option.some.injEq]at h
      subst h
      rw[List.set_cons_zero,valL,valL,Pq.bp_zero]
      omega
    | succ p =>
      rw[List.set_cons_succ,valL,valL,Pq.bp_succ]
      have:=ih (fun y hy=>hw y (by simp[hy])) (by simpa using h)
      have e1:((Pq.bp p*4294967296:Nat):Int)*(v-old)=4294967296*((Pq.bp p:Nat)*(v-old)):=by
        rw[Int.natCast_mul,Int.mul_comm ((Pq.bp p:Nat):Int) ((4294967296:Nat):Int),Int.mul_assoc];rfl
      rw[e1]
      generalize ((Pq.bp p:Nat):Int)*(v-old)=q at *
      omega
theorem words_set {row:List Int} {p:Nat} {v:Int} (hw:Words row) (h0:0≤v) (h1:v<4294967296):Words (row.set p v):=fun x hx=>by
  rcases List.mem_or_eq_of_mem_set hx with h|rfl
  · exact hw x h
  · exact ⟨h0,h1⟩
theorem words_zero (n:Nat):Words (List.replicate n 0):=fun v hv=>by rw[List.eq_of_mem_replicate hv];omega
theorem val_zero (n:Nat):valL (List.replicate n 0)=0:=by
  induction n with
  | zero=>rfl
  | succ n ih=>rw[List.replicate_succ,valL,ih];rfl
noncomputable def tr_psubL (x:RSpec.X spSub×RSpec.Y spSub×(List (El (RSpec.c spSub))×Nat)):T (RRd spSub):=
 .ite (decide (x.1.2.2.2.1<(↑(List.length x.1.1):Int)))
  (.get x.1.1 x.1.2.2.2.1 (fun v0 =>
   .ite (decide (x.1.2.2.2.1<(↑(List.length x.1.2.1):Int)))
    (.get x.1.2.1 x.1.2.2.2.1 (fun v1 =>
     .ite (decide (IntKind.wrap .i64 (IntKind.wrap .i64 (IntKind.wrap .i64 v0-x.1.2.2.1)-IntKind.wrap .i64 v1)<(0:Int)))
      (.need (List.length x.2.2.1=List.length x.2.2.1∧x.2.2.2=x.2.2.2∧(List.length x.2.2.1+List.length [IntKind.wrap .u32 (IntKind.wrap .i64 (IntKind.wrap .i64 (IntKind.wrap .i64 (IntKind.wrap .i64 v0-x.1.2.2.1)-IntKind.wrap .i64 v1)+(4294967296:Int)))])*(nat_lit 3+(1:Nat))≤(140737488355328:Nat)∧List.length x.2.2.1+List.length [IntKind.wrap .u32 (IntKind.wrap .i64 (IntKind.wrap .i64 (IntKind.wrap .i64 (IntKind.wrap .i64 v0-x.1.2.2.1)-IntKind.wrap .i64 v1)+(4294967296:Int)))]≤Go.maxLen) (.and
        (.need (List.length x.2.2.1+List.length [IntKind.wrap .u32 (IntKind.wrap .i64 (IntKind.wrap .i64 (IntKind.wrap .i64 (IntKind.wrap .i64 v0-x.1.2.2.1)-IntKind.wrap .i64 v1)+(4294967296:Int)))]=List.length (x.2.2.1++[IntKind.wrap .u32 (IntKind.wrap .i64 (IntKind.wrap .i64 (IntKind.wrap .i64 (IntKind.wrap .i64 v0-x.1.2.2.1)-IntKind.wrap .i64 v1)+(4294967296:Int)))])∧x.2.2.2=x.2.2.2) (.ret (.again (x.1.1,(x.1.2.1,((1:Int),(IntKind.wrap .i64 (x.1.2.2.2.1+(1:Int)),())))) () (some ((x.2.2.1++[IntKind.wrap .u32 (IntKind.wrap .i64 (IntKind.wrap .i64 (IntKind.wrap .i64 (IntKind.wrap .i64 v0-x.1.2.2.1)-IntKind.wrap .i64 v1)+(4294967296:Int)))],x.2.2.2))))))
        (.up (List.length x.2.2.1+List.length [IntKind.wrap .u32 (IntKind.wrap .i64 (IntKind.wrap .i64 (IntKind.wrap .i64 (IntKind.wrap .i64 v0-x.1.2.2.1)-IntKind.wrap .i64 v1)+(4294967296:Int)))]) (fun v2 =>
         .need (List.length x.2.2.1+List.length [IntKind.wrap .u32 (IntKind.wrap .i64 (IntKind.wrap .i64 (IntKind.wrap .i64 (IntKind.wrap .i64 v0-x.1.2.2.1)-IntKind.wrap .i64 v1)+(4294967296:Int)))]=List.length (x.2.2.1++[IntKind.wrap .u32 (IntKind.wrap .i64 (IntKind.wrap .i64 (IntKind.wrap .i64 (IntKind.wrap .i64 v0-x.1.2.2.1)-IntKind.wrap .i64 v1)+(4294967296:Int)))])∧v2=v2) (.ret (.again (x.1.1,(x.1.2.1,((1:Int),(IntKind.wrap .i64 (x.1.2.2.2.1+(1:Int)),())))) () (some ((x.2.2.1++[IntKind.wrap .u32 (IntKind.wrap .i64 (IntKind.wrap .i64 (IntKind.wrap .i64 (IntKind.wrap .i64 v0-x.1.2.2.1)-IntKind.wrap .i64 v1)+(4294967296:Int)))],v2)))))))))
      (.need (List.length x.2.2.1=List.length x.2.2.1∧x.2.2.2=x.2.2.2∧(List.length x.2.2.1+List.length [IntKind.wrap .u32 (IntKind.wrap .i64 (IntKind.wrap .i64 (IntKind.wrap .i64 v0-x.1.2.2.1)-IntKind.wrap .i64 v1))])*(nat_lit 3+(1:Nat))≤(140737488355328:Nat)∧List.length x.2.2.1+List.length [IntKind.wrap .u32 (IntKind.wrap .i64 (IntKind.wrap .i64 (IntKind.wrap .i64 v0-x.1.2.2.1)-IntKind.wrap .i64 v1))]≤Go.maxLen) (.and
        (.need (List.length x.2.2.1+List.length [IntKind.wrap .u32 (IntKind.wrap .i64 (IntKind.wrap .i64 (IntKind.wrap .i64 v0-x.1.2.2.1)-IntKind.wrap .i64 v1))]=List.length (x.2.2.1++[IntKind.wrap .u32 (IntKind.wrap .i64 (IntKind.wrap .i64 (IntKind.wrap .i64 v0-x.1.2.2.1)-IntKind.wrap .i64 v1))])∧x.2.2.2=x.2.2.2) (.ret (.again (x.1.1,(x.1.2.1,((0:Int),(IntKind.wrap .i64 (x.1.2.2.2.1+(1:Int)),())))) () (some ((x.2.2.1++[IntKind.wrap .u32 (IntKind.wrap .i64 (IntKind.wrap .i64 (IntKind.wrap .i64 v0-x.1.2.2.1)-IntKind.wrap .i64 v1))],x.2.2.2))))))
        (.up (List.length x.2.2.1+List.length [IntKind.wrap .u32 (IntKind.wrap .i64 (IntKind.wrap .i64 (IntKind.wrap .i64 v0-x.1.2.2.1)-IntKind.wrap .i64 v1))]) (fun v2 =>
         .need (List.length x.2.2.1+List.length [IntKind.wrap .u32 (IntKind.wrap .i64 (IntKind.wrap .i64 (IntKind.wrap .i64 v0-x.1.2.2.1)-IntKind.wrap .i64 v1))]=List.length (x.2.2.1++[IntKind.wrap .u32 (IntKind.wrap .i64 (IntKind.wrap .i64 (IntKind.wrap .i64 v0-x.1.2.2.1)-IntKind.wrap .i64 v1))])∧v2=v2) (.ret (.again (x.1.1,(x.1.2.1,((0:Int),(IntKind.wrap .i64 (x.1.2.2.2.1+(1:Int)),())))) () (some ((x.2.2.1++[IntKind.wrap .u32 (IntKind.wrap .i64 (IntKind.wrap .i64 (IntKind.wrap .i64 v0-x.1.2.2.1)-IntKind.wrap .i64 v1))],v2)))))))))))
    (.ite (decide (IntKind.wrap .i64 (IntKind.wrap .i64 v0-x.1.2.2.1)<(0:Int)))
     (.need (List.length x.2.2.1=List.length x.2.2.1∧x.2.2.2=x.2.2.2∧(List.length x.2.2.1+List.length [IntKind.wrap .u32 (IntKind.wrap .i64 (IntKind.wrap .i64 (IntKind.wrap .i64 v0-x.1.2.2.1)+(4294967296:Int)))])*(nat_lit 3+(1:Nat))≤(140737488355328:Nat)∧List.length x.2.2.1+List.length [IntKind.wrap .u32 (IntKind.wrap .i64 (IntKind.wrap .i64 (IntKind.wrap .i64 v0-x.1.2.2.1)+(4294967296:Int)))]≤Go.maxLen) (.and
       (.need (List.length x.2.2.1+List.length [IntKind.wrap .u32 (IntKind.wrap .i64 (IntKind.wrap .i64 (IntKind.wrap .i64 v0-x.1.2.2.1)+(4294967296:Int)))]=List.length (x.2.2.1++[IntKind.wrap .u32 (IntKind.wrap .i64 (IntKind.wrap .i64 (IntKind.wrap .i64 v0-x.1.2.2.1)+(4294967296:Int)))])∧x.2.2.2=x.2.2.2) (.ret (.again (x.1.1,(x.1.2.1,((1:Int),(IntKind.wrap .i64 (x.1.2.2.2.1+(1:Int)),())))) () (some ((x.2.2.1++[IntKind.wrap .u32 (IntKind.wrap .i64 (IntKind.wrap .i64 (IntKind.wrap .i64 v0-x.1.2.2.1)+(4294967296:Int)))],x.2.2.2))))))
       (.up (List.length x.2.2.1+List.length [IntKind.wrap .u32 (IntKind.wrap .i64 (IntKind.wrap .i64 (IntKind.wrap .i64 v0-x.1.2.2.1)+(4294967296:Int)))]) (fun v1 =>
        .need (List.length x.2.2.1+List.length [IntKind.wrap .u32 (IntKind.wrap .i64 (IntKind.wrap .i64 (IntKind.wrap .i64 v0-x.1.2.2.1)+(4294967296:Int)))]=List.length (x.2.2.1++[IntKind.wrap .u32 (IntKind.wrap .i64 (IntKind.wrap .i64 (IntKind.wrap .i64 v0-x.1.2.2.1)+(4294967296:Int)))])∧v1=v1) (.ret (.again (x.1.1,(x.1.2.1,((1:Int),(IntKind.wrap .i64 (x.1.2.2.2.1+(1:Int)),())))) () (some ((x.2.2.1++[IntKind.wrap .u32 (IntKind.wrap .i64 (IntKind.wrap .i64 (IntKind.wrap .i64 v0-x.1.2.2.1)+(4294967296:Int)))],v1)))))))))
     (.need (List.length x.2.2.1=List.length x.2.2.1∧x.2.2.2=x.2.2.2∧(List.length x.2.2.1+List.length [IntKind.wrap .u32 (IntKind.wrap .i64 (IntKind.wrap .i64 v0-x.1.2.2.1))])*(nat_lit 3+(1:Nat))≤(140737488355328:Nat)∧List.length x.2.2.1+List.length [IntKind.wrap .u32 (IntKind.wrap .i64 (IntKind.wrap .i64 v0-x.1.2.2.1))]≤Go.maxLen) (.and
       (.need (List.length x.2.2.1+List.length [IntKind.wrap .u32 (IntKind.wrap .i64 (IntKind.wrap .i64 v0-x.1.2.2.1))]=List.length (x.2.2.1++[IntKind.wrap .u32 (IntKind.wrap .i64 (IntKind.wrap .i64 v0-x.1.2.2.1))])∧x.2.2.2=x.2.2.2) (.ret (.again (x.1.1,(x.1.2.1,((0:Int),(IntKind.wrap .i64 (x.1.2.2.2.1+(1:Int)),())))) () (some ((x.2.2.1++[IntKind.wrap .u32 (IntKind.wrap .i64 (IntKind.wrap .i64 v0-x.1.2.2.1))],x.2.2.2))))))
       (.up (List.length x.2.2.1+List.length [IntKind.wrap .u32 (IntKind.wrap .i64 (IntKind.wrap .i64 v0-x.1.2.2.1))]) (fun v1 =>
        .need (List.length x.2.2.1+List.length [IntKind.wrap .u32 (IntKind.wrap .i64 (IntKind.wrap .i64 v0-x.1.2.2.1))]=List.length (x.2.2.1++[IntKind.wrap .u32 (IntKind.wrap .i64 (IntKind.wrap .i64 v0-x.1.2.2.1))])∧v1=v1) (.ret (.again (x.1.1,(x.1.2.1,((0:Int),(IntKind.wrap .i64 (x.1.2.2.2.1+(1:Int)),())))) () (some ((x.2.2.1++[IntKind.wrap .u32 (IntKind.wrap .i64 (IntKind.wrap .i64 v0-x.1.2.2.1))],v1))))))))))))
  (.need (List.length x.2.2.1=List.length x.2.2.1∧x.2.2.2=x.2.2.2) (.ret (.out (Go.Exit.exit (0:Nat)) [] () (some x.2.2))))
theorem tr_psubL_eq (x:RSpec.X spSub×RSpec.Y spSub×(List (El (RSpec.c spSub))×Nat)):RSpec.round spSub E25 (fun _=>none) (bodyOf Tryz.f133 0) x.1 x.2.1 (some x.2.2)=tr_psubL x:=by kernel_rfl
noncomputable def tr_psubL0 (x:RSpec.X spSub×RSpec.Y spSub):T (RRd spSub):=
 .ite (decide (x.1.2.2.2.1<(↑(List.length x.1.1):Int)))
  (.get x.1.1 x.1.2.2.2.1 (fun v0 =>
   .ite (decide (x.1.2.2.2.1<(↑(List.length x.1.2.1):Int)))
    (.get x.1.2.1 x.1.2.2.2.1 (fun v1 =>
     .ite (decide (IntKind.wrap .i64 (IntKind.wrap .i64 (IntKind.wrap .i64 v0-x.1.2.2.1)-IntKind.wrap .i64 v1)<(0:Int)))
      (.need (List.length [IntKind.wrap .u32 (IntKind.wrap .i64 (IntKind.wrap .i64 (IntKind.wrap .i64 (IntKind.wrap .i64 v0-x.1.2.2.1)-IntKind.wrap .i64 v1)+(4294967296:Int)))]*(nat_lit 3+(1:Nat))≤(140737488355328:Nat)∧List.length [IntKind.wrap .u32 (IntKind.wrap .i64 (IntKind.wrap .i64 (IntKind.wrap .i64 (IntKind.wrap .i64 v0-x.1.2.2.1)-IntKind.wrap .i64 v1)+(4294967296:Int)))]≤Go.maxLen) (.up (List.length [IntKind.wrap .u32 (IntKind.wrap .i64 (IntKind.wrap .i64 (IntKind.wrap .i64 (IntKind.wrap .i64 v0-x.1.2.2.1)-IntKind.wrap .i64 v1)+(4294967296:Int)))]) (fun v2 =>
        .need (List.length [IntKind.wrap .u32 (IntKind.wrap .i64 (IntKind.wrap .i64 (IntKind.wrap .i64 (IntKind.wrap .i64 v0-x.1.2.2.1)-IntKind.wrap .i64 v1)+(4294967296:Int)))]=List.length [IntKind.wrap .u32 (IntKind.wrap .i64 (IntKind.wrap .i64 (IntKind.wrap .i64 (IntKind.wrap .i64 v0-x.1.2.2.1)-IntKind.wrap .i64 v1)+(4294967296:Int)))]∧v2=v2) (.ret (.again (x.1.1,(x.1.2.1,((1:Int),(IntKind.wrap .i64 (x.1.2.2.2.1+(1:Int)),())))) () (some (([IntKind.wrap .u32 (IntKind.wrap .i64 (IntKind.wrap .i64 (IntKind.wrap .i64 (IntKind.wrap .i64 v0-x.1.2.2.1)-IntKind.wrap .i64 v1)+(4294967296:Int)))],v2))))))))
      (.need (List.length [IntKind.wrap .u32 (IntKind.wrap .i64 (IntKind.wrap .i64 (IntKind.wrap .i64 v0-x.1.2.2.1)-IntKind.wrap .i64 v1))]*(nat_lit 3+(1:Nat))≤(140737488355328:Nat)∧List.length [IntKind.wrap .u32 (IntKind.wrap .i64 (IntKind.wrap .i64 (IntKind.wrap .i64 v0-x.1.2.2.1)-IntKind.wrap .i64 v1))]≤Go.maxLen) (.up (List.length [IntKind.wrap .u32 (IntKind.wrap .i64 (IntKind.wrap .i64 (IntKind.wrap .i64 v0-x.1.2.2.1)-IntKind.wrap .i64 v1))]) (fun v2 =>
        .need (List.length [IntKind.wrap .u32 (IntKind.wrap .i64 (IntKind.wrap .i64 (IntKind.wrap .i64 v0-x.1.2.2.1)-IntKind.wrap .i64 v1))]=List.length [IntKind.wrap .u32 (IntKind.wrap .i64 (IntKind.wrap .i64 (IntKind.wrap .i64 v0-x.1.2.2.1)-IntKind.wrap .i64 v1))]∧v2=v2) (.ret (.again (x.1.1,(x.1.2.1,((0:Int),(IntKind.wrap .i64 (x.1.2.2.2.1+(1:Int)),())))) () (some (([IntKind.wrap .u32 (IntKind.wrap .i64 (IntKind.wrap .i64 (IntKind.wrap .i64 v0-x.1.2.2.1)-IntKind.wrap .i64 v1))],v2))))))))))
    (.ite (decide (IntKind.wrap .i64 (IntKind.wrap .i64 v0-x.1.2.2.1)<(0:Int)))
     (.need (List.length [IntKind.wrap .u32 (IntKind.wrap .i64 (IntKind.wrap .i64 (IntKind.wrap .i64 v0-x.1.2.2.1)+(4294967296:Int)))]*(nat_lit 3+(1:Nat))≤(140737488355328:Nat)∧List.length [IntKind.wrap .u32 (IntKind.wrap .i64 (IntKind.wrap .i64 (IntKind.wrap .i64 v0-x.1.2.2.1)+(4294967296:Int)))]≤Go.maxLen) (.up (List.length [IntKind.wrap .u32 (IntKind.wrap .i64 (IntKind.wrap .i64 (IntKind.wrap .i64 v0-x.1.2.2.1)+(4294967296:Int)))]) (fun v1 =>
       .need (List.length [IntKind.wrap .u32 (IntKind.wrap .i64 (IntKind.wrap .i64 (IntKind.wrap .i64 v0-x.1.2.2.1)+(4294967296:Int)))]=List.length [IntKind.wrap .u32 (IntKind.wrap .i64 (IntKind.wrap .i64 (IntKind.wrap .i64 v0-x.1.2.2.1)+(4294967296:Int)))]∧v1=v1) (.ret (.again (x.1.1,(x.1.2.1,((1:Int),(IntKind.wrap .i64 (x.1.2.2.2.1+(1:Int)),())))) () (some (([IntKind.wrap .u32 (IntKind.wrap .i64 (IntKind.wrap .i64 (IntKind.wrap .i64 v0-x.1.2.2.1)+(4294967296:Int)))],v1))))))))
     (.need (List.length [IntKind.wrap .u32 (IntKind.wrap .i64 (IntKind.wrap .i64 v0-x.1.2.2.1))]*(nat_lit 3+(1:Nat))≤(140737488355328:Nat)∧List.length [IntKind.wrap .u32 (IntKind.wrap .i64 (IntKind.wrap .i64 v0-x.1.2.2.1))]≤Go.maxLen) (.up (List.length [IntKind.wrap .u32 (IntKind.wrap .i64 (IntKind.wrap .i64 v0-x.1.2.2.1))]) (fun v1 =>
       .need (List.length [IntKind.wrap .u32 (IntKind.wrap .i64 (IntKind.wrap .i64 v0-x.1.2.2.1))]=List.length [IntKind.wrap .u32 (IntKind.wrap .i64 (IntKind.wrap .i64 v0-x.1.2.2.1))]∧v1=v1) (.ret (.again (x.1.1,(x.1.2.1,((0:Int),(IntKind.wrap .i64 (x.1.2.2.2.1+(1:Int)),())))) () (some (([IntKind.wrap .u32 (IntKind.wrap .i64 (IntKind.wrap .i64 v0-x.1.2.2.1))],v1)))))))))))
  (.need (True) (.ret (.out (Go.Exit.exit (0:Nat)) [] () none)))
theorem tr_psubL0_eq (x:RSpec.X spSub×RSpec.Y spSub):RSpec.round spSub E25 (fun _=>none) (bodyOf Tryz.f133 0) x.1 x.2 none=tr_psubL0 x:=by kernel_rfl
noncomputable def tr_pcmpL (x:LSpec.X spCmp×LSpec.Y spCmp):T (Rd spCmp):=
 .ite (decide (x.1.2.2.1≥(0:Int)))
  (.get x.1.1 x.1.2.2.1 (fun v0 =>
   .get x.1.2.1 x.1.2.2.1 (fun v1 =>
    .ite (decide (v0<v1))
     (.ret (.out (Go.Exit.ret) [(.one (.v (.int .i64 ((-1:Int)))))] ()))
     (.get x.1.1 x.1.2.2.1 (fun v2 =>
      .get x.1.2.1 x.1.2.2.1 (fun v3 =>
       .ite (decide (v2>v3))
        (.ret (.out (Go.Exit.ret) [(.one (.v (.int .i64 ((1:Int)))))] ()))
        (.ret (.again (x.1.1,(x.1.2.1,(IntKind.wrap .i64 (x.1.2.2.1-(1:Int)),()))) ()))))))))
  (.ret (.out (Go.Exit.exit (0:Nat)) [] ()))
theorem tr_pcmpL_eq (x:LSpec.X spCmp×LSpec.Y spCmp):LSpec.round spCmp E25 (fun _=>none) (bodyOf Tryz.f86 0) x.1 x.2=tr_pcmpL x:=by kernel_rfl
noncomputable def tr_pbitsL (x:LSpec.X spBits×LSpec.Y spBits):T (Rd spBits):=
 .ite (decide (x.1.2.1>(0:Int)))
  (.ret (.again (IntKind.wrap .i64 (x.1.1+(1:Int)),(Int.fdiv x.1.2.1 ((2:Int)^Min.min (Int.toNat (1:Int)) (IntKind.bits .u32)),())) ()))
  (.ret (.out (Go.Exit.exit (0:Nat)) [(.one (.v (.int .i64 x.1.1)))] ()))
theorem tr_pbitsL_eq (x:LSpec.X spBits×LSpec.Y spBits):LSpec.round spBits E25 (fun _=>none) (bodyOf Tryz.f114 0) x.1 x.2=tr_pbitsL x:=by kernel_rfl
noncomputable def tr_pshlL (x:RSpec.X spShl×RSpec.Y spShl×(List (El (RSpec.c spShl))×Nat)):T (RRd spShl):=
 .ite (decide (x.1.2.2.1<(↑(List.length x.1.1):Int)))
  (.get x.1.1 x.1.2.2.1 (fun v0 =>
   .need ((32 : Int) ≠ (0 : Int)) (.need ((0 : Int) ≤ IntKind.wrap .u64 (Int.tmod x.1.2.1 (32 : Int))) (.need ((32 : Int) ≠ (0 : Int)) (.need ((32 : Int) ≠ (0 : Int)) (.need ((0 : Int) ≤ IntKind.wrap .i64 (x.1.2.2.1 + IntKind.wrap .i64 (Int.tdiv x.1.2.1 (32 : Int))) ∧ IntKind.wrap .i64 (x.1.2.2.1 + IntKind.wrap .i64 (Int.tdiv x.1.2.1 (32 : Int))) < (↑(List.length x.2.2.1) : Int)) (.get x.2.2.1 (IntKind.wrap .i64 (x.1.2.2.1 + IntKind.wrap .i64 (Int.tdiv x.1.2.1 (32 : Int)))) (fun v1 =>
         .need ((0:Int)≤IntKind.wrap .i64 (x.1.2.2.1+IntKind.wrap .i64 (Int.tdiv x.1.2.1 (32:Int)))∧IntKind.wrap .i64 (x.1.2.2.1+IntKind.wrap .i64 (Int.tdiv x.1.2.1 (32:Int)))<(↑(List.length x.2.2.1):Int)) (.need (IntKind.wrap .i64 (x.1.2.2.1+IntKind.wrap .i64 (Int.tdiv x.1.2.1 (32:Int)))<(↑(List.length x.2.2.1):Int)) (.need ((32:Int)≠(0:Int)) (.need ((0:Int)≤IntKind.wrap .i64 (IntKind.wrap .i64 (x.1.2.2.1+IntKind.wrap .i64 (Int.tdiv x.1.2.1 (32:Int)))+(1:Int))∧IntKind.wrap .i64 (IntKind.wrap .i64 (x.1.2.2.1+IntKind.wrap .i64 (Int.tdiv x.1.2.1 (32:Int)))+(1:Int))<(↑(List.length x.2.2.1):Int)) (.need (IntKind.wrap .i64 (IntKind.wrap .i64 (x.1.2.2.1+IntKind.wrap .i64 (Int.tdiv x.1.2.1 (32:Int)))+(1:Int))<(↑(List.length (List.set x.2.2.1 (Int.toNat (IntKind.wrap .i64 (x.1.2.2.1+IntKind.wrap .i64 (Int.tdiv x.1.2.1 (32:Int))))) (IntKind.wrap .u32 (↑(BitVec.toNat (BitVec.ofInt (IntKind.bits .u32) v1 ||| BitVec.ofInt (IntKind.bits .u32) (IntKind.wrap .u32 (IntKind.wrap .u64 (IntKind.wrap .u64 v0*(2:Int)^Min.min (Int.toNat (IntKind.wrap .u64 (Int.tmod x.1.2.1 (32:Int)))) (IntKind.bits .u64)))))):Int)))):Int)) (.need (List.length x.2.2.1=List.length (List.set (List.set x.2.2.1 (Int.toNat (IntKind.wrap .i64 (x.1.2.2.1+IntKind.wrap .i64 (Int.tdiv x.1.2.1 (32:Int))))) (IntKind.wrap .u32 (↑(BitVec.toNat (BitVec.ofInt (IntKind.bits .u32) v1 ||| BitVec.ofInt (IntKind.bits .u32) (IntKind.wrap .u32 (IntKind.wrap .u64 (IntKind.wrap .u64 v0*(2:Int)^Min.min (Int.toNat (IntKind.wrap .u64 (Int.tmod x.1.2.1 (32:Int)))) (IntKind.bits .u64)))))):Int))) (Int.toNat (IntKind.wrap .i64 (IntKind.wrap .i64 (x.1.2.2.1+IntKind.wrap .i64 (Int.tdiv x.1.2.1 (32:Int)))+(1:Int)))) (IntKind.wrap .u32 (Int.fdiv (IntKind.wrap .u64 (IntKind.wrap .u64 v0*(2:Int)^Min.min (Int.toNat (IntKind.wrap .u64 (Int.tmod x.1.2.1 (32:Int)))) (IntKind.bits .u64))) ((2:Int)^Min.min (Int.toNat (32:Int)) (IntKind.bits .u64)))))∧x.2.2.2=x.2.2.2) (.ret (.again (x.1.1,(x.1.2.1,(IntKind.wrap .i64 (x.1.2.2.1+(1:Int)),()))) () (some ((List.set (List.set x.2.2.1 (Int.toNat (IntKind.wrap .i64 (x.1.2.2.1+IntKind.wrap .i64 (Int.tdiv x.1.2.1 (32:Int))))) (IntKind.wrap .u32 (↑(BitVec.toNat (BitVec.ofInt (IntKind.bits .u32) v1 ||| BitVec.ofInt (IntKind.bits .u32) (IntKind.wrap .u32 (IntKind.wrap .u64 (IntKind.wrap .u64 v0*(2:Int)^Min.min (Int.toNat (IntKind.wrap .u64 (Int.tmod x.1.2.1 (32:Int)))) (IntKind.bits .u64)))))):Int))) (Int.toNat (IntKind.wrap .i64 (IntKind.wrap .i64 (x.1.2.2.1+IntKind.wrap .i64 (Int.tdiv x.1.2.1 (32:Int)))+(1:Int)))) (IntKind.wrap .u32 (Int.fdiv (IntKind.wrap .u64 (IntKind.wrap .u64 v0*(2:Int)^Min.min (Int.toNat (IntKind.wrap .u64 (Int.tmod x.1.2.1 (32:Int)))) (IntKind.bits .u64))) ((2:Int)^Min.min (Int.toNat (32:Int)) (IntKind.bits .u64)))),x.2.2.2))))))))))))))))))
  (.need (List.length x.2.2.1=List.length x.2.2.1∧x.2.2.2=x.2.2.2) (.ret (.out (Go.Exit.exit (0:Nat)) [] () (some x.2.2))))
theorem tr_pshlL_eq (x:RSpec.X spShl×RSpec.Y spShl×(List (El (RSpec.c spShl))×Nat)):RSpec.round spShl E25 (fun _=>none) (bodyOf Tryz.f153 0) x.1 x.2.1 (some x.2.2)=tr_pshlL x:=by kernel_rfl
noncomputable def tr_ptinyL (x:LSpec.X spTiny×LSpec.Y spTiny):T (Rd spTiny):=
 .ite (decide (x.1.1<(32:Int)))
  (.need ((0:Int)≤x.1.1∧x.1.1<(↑(32:Nat):Int)) (.need (x.1.1<(32:Int)) (.ite ((↑(Pq.wd x.2.1.1.2.1 (Int.toNat x.1.1)):Int) != (0:Int))
     (.ret (.out (Go.Exit.ret) [(.one (.v (.int .i64 ((0:Int))))),(.one (.v (.int .i64 ((0:Int))))),(.one (.v (.bool (false))))] (x.2.1,())))
     (.need ((0:Int)≤x.1.1∧x.1.1<(↑(32:Nat):Int)) (.need (x.1.1<(32:Int)) (.ite ((↑(Pq.wd x.2.1.2.2.1 (Int.toNat x.1.1)):Int) != (0:Int))
        (.ret (.out (Go.Exit.ret) [(.one (.v (.int .i64 ((0:Int))))),(.one (.v (.int .i64 ((0:Int))))),(.one (.v (.bool (false))))] (x.2.1,())))
        (.ret (.again (IntKind.wrap .i64 (x.1.1+(1:Int)),()) (x.2.1,())))))))))
  (.ret (.out (Go.Exit.exit (0:Nat)) [] (x.2.1,())))
theorem tr_ptinyL_eq (x:LSpec.X spTiny×LSpec.Y spTiny):LSpec.round spTiny E25 (fun _=>none) (bodyOf Tryz.f85 0) x.1 x.2=tr_ptinyL x:=by kernel_rfl
noncomputable def tr_pcommL (x:LSpec.X spComm×LSpec.Y spComm):T (Rd spComm):=
 .ite (decide (x.1.2.1>(0:Int)))
  (.need (x.1.2.1≠(0:Int)) (.ret (.again (x.1.2.1,(Int.tmod x.1.1 x.1.2.1,())) ())))
  (.ret (.out (Go.Exit.exit (0:Nat)) [(.one (.v (.int .i64 x.1.1)))] ()))
theorem tr_pcommL_eq (x:LSpec.X spComm×LSpec.Y spComm):LSpec.round spComm E25 (fun _=>none) (bodyOf Tryz.f131 0) x.1 x.2=tr_pcommL x:=by kernel_rfl
theorem words_nil:Words []:=fun v hv=>by cases hv
theorem val_nil:valL []=0:=rfl
theorem cons_val {v:Int} (h:0≤v) (r:List Int):(valL (v::r):Int)=v+4294967296*valL r:=by rw[valL];omega
theorem cons_words {v:Int} {r:List Int} (h:0≤v∧v<4294967296) (hr:Words r):Words (v::r):=fun x hx=>by
  rcases List.mem_cons.1 hx with rfl|hx
  · exact h
  · exact hr x hx
theorem tail_words {v:Int} {r:List Int} (h:Words (v::r)):Words r:=fun x hx=>h x (by simp[hx])
def sbD (d:Int):Int:=if d<0 then d+4294967296 else d
def sbC (d:Int):Int:=if d<0 then 1 else 0
def sbW:List Int→List Int→Int→List Int
  | [],_,_=>[]
  | x::a,[],c=>sbD (x-c)::sbW a [] (sbC (x-c))
  | x::a,y::b,c=>sbD (x-c-y)::sbW a b (sbC (x-c-y))
theorem sbD_c (d:Int):sbD d=d+4294967296*sbC d:=by unfold sbD sbC;split <;> omega
theorem sbC_01 (d:Int):sbC d=0∨sbC d=1:=by unfold sbC;split <;> simp
theorem sbW_spec : ∀ (a b:List Int) (c:Int),Words a→Words b→(c=0∨c=1)→b.length≤a.length→Words (sbW a b c)∧(sbW a b c).length=a.length ∧ ∃ e:Int,(e=0∨e=1)∧(valL (sbW a b c):Int)=valL a-valL b-c+Pq.bp a.length*e
  | [],b,c,_,_,hc,hl=>by
    have:b=[]:=List.length_eq_zero_iff.1 (by simpa using hl)
    subst this
    refine ⟨words_nil,rfl,c,hc,?_⟩
    rw[List.length_nil,Pq.bp_zero]
    simp[sbW,valL]
    omega
  | x::a,[],c,ha,hb,hc,hl=>by
    have hx:=ha x (by simp)
    obtain ⟨i1,i2,e,he,i3⟩:=sbW_spec a [] (sbC (x-c)) (tail_words ha) hb (sbC_01 _) (by simp)
    have h1:=sbD_c (x-c)
    have h2:0≤sbD (x-c)∧sbD (x-c)<4294967296:=by unfold sbD;split <;> omega
    rw[sbW]
    refine ⟨cons_words h2 i1,by simp[i2],e,he,?_⟩
    rw[cons_val h2.1,i3,cons_val hx.1,List.length_cons,Pq.bp_succ]
    have e1:((Pq.bp a.length*4294967296:Nat):Int)*e=4294967296*((Pq.bp a.length:Nat)*e):=by rw[Int.natCast_mul,Int.mul_comm ((Pq.bp a.length:Nat):Int),Int.mul_assoc];rfl
    rw[e1,h1,val_nil]
    generalize ((Pq.bp a.length:Nat):Int)*e=q
    omega
  | x::a,y::b,c,ha,hb,hc,hl=>by
    have hx:=ha x (by simp)
    have hy:=hb y (by simp)
    obtain ⟨i1,i2,e,he,i3⟩:=sbW_spec a b (sbC (x-c-y)) (tail_words ha) (tail_words hb) (sbC_01 _) (by simpa using hl)
    have h1:=sbD_c (x-c-y)
    have h2:0≤sbD (x-c-y)∧sbD (x-c-y)<4294967296:=by unfold sbD;split <;> omega
    rw[sbW]
    refine ⟨cons_words h2 i1,by simp[i2],e,he,?_⟩
    rw[cons_val h2.1,i3,cons_val hx.1,cons_val hy.1,List.length_cons,Pq.bp_succ]
    have e1:((Pq.bp a.length*4294967296:Nat):Int)*e=4294967296*((Pq.bp a.length:Nat)*e):=by rw[Int.natCast_mul,Int.mul_comm ((Pq.bp a.length:Nat):Int),Int.mul_assoc];rfl
    rw[e1,h1]
    generalize ((Pq.bp a.length:Nat):Int)*e=q
    omega
theorem sbW_val {a b:List Int} (ha:Words a) (hb:Words b) (hl:b.length≤a.length) (h:valL b≤valL a):valL (sbW a b 0)=valL a-valL b:=by
  obtain ⟨h1,h2,e,he,h3⟩:=sbW_spec a b 0 ha hb (.inl rfl) hl
  have hlt:=val_words h1
  rw[h2]at hlt
  rcases he with rfl|rfl
  · omega
  · omega
def cmW (a b:List Int):Nat→Int
  | 0=>0
  | n+1=>if a.getD n 0<b.getD n 0 then -1 else if a.getD n 0>b.getD n 0 then 1 else cmW a b n
theorem take_val {a:List Int} {n:Nat} (h:n<a.length):valL (a.take (n+1))=valL (a.take n)+Pq.bp n*(a.getD n 0).toNat:=by
  have hp:a[n]?=some (a.getD n 0):=by rw[List.getD_eq_getElem?_getD,List.getElem?_eq_getElem h];rfl
  have hta:a.take (n+1)=a.take n++[a.getD n 0]:=by rw[List.take_add_one,hp];rfl
  have hlt:(a.take n).length=n:=by rw[List.length_take];omega
  rw[hta,val_app,hlt]
  simp[valL]
theorem take_words {a:List Int} (h:Words a) (n:Nat):Words (a.take n):=fun v hv=>h v (List.mem_of_mem_take hv)
theorem cmW_spec {a b:List Int} (ha:Words a) (hb:Words b) : ∀ n,n≤a.length→n≤b.length→cmW a b n=Pq.cz (valL (a.take n)) (valL (b.take n))
  | 0,_,_=>by simp[cmW,valL,Pq.cz]
  | n+1,h1,h2=>by
    have va:=val_words (take_words ha n)
    have vb:=val_words (take_words hb n)
    rw[List.length_take,Nat.min_eq_left (by omega)]at va vb
    have wa:=ha (a.getD n 0) (by rw[List.getD_eq_getElem?_getD,List.getElem?_eq_getElem (by omega:n<a.length)];exact List.getElem_mem _)
    have wb:=hb (b.getD n 0) (by rw[List.getD_eq_getElem?_getD,List.getElem?_eq_getElem (by omega:n<b.length)];exact List.getElem_mem _)
    rw[cmW,cmW_spec ha hb n (by omega) (by omega),take_val (by omega:n<a.length),take_val (by omega:n<b.length)]
    generalize valL (a.take n)=x at *
    generalize valL (b.take n)=y at *
    generalize a.getD n 0=u at *
    generalize b.getD n 0=v at *
    generalize Pq.bp n=p at *
    have key : ∀ s t:Nat,s+1≤t→p*s+p≤p*t:=fun s t h=>by rw[←Nat.mul_succ];exact Nat.mul_le_mul_left _ h
    unfold Pq.cz
    by_cases h3:u<v
    · have:=key u.toNat v.toNat (by omega)
      rw[if_pos h3,if_pos (by omega)]
    · by_cases h4:v<u
      · have:=key v.toNat u.toNat (by omega)
        rw[if_neg h3,if_pos h4,if_neg (by omega),if_pos (by omega)]
      · obtain rfl:u=v:=by omega
        rw[if_neg h3,if_neg h4]
        by_cases h5:(x:Int)<y
        · rw[if_pos h5,if_pos (by omega)]
        · by_cases h6:(y:Int)<x
          · rw[if_neg h5,if_pos h6,if_neg (by omega),if_pos (by omega)]
          · rw[if_neg h5,if_neg h6,if_neg (by omega),if_neg (by omega)]
theorem bitn_half {x:Nat} (h:x≠0):Pq.bitn x=Pq.bitn (x/2)+1:=by
  by_cases h1:x=1
  · subst h1;rfl
  · unfold Pq.bitn
    rw[if_neg h,if_neg (by omega),Nat.log2_def,if_pos (by omega)]
theorem bitn_add {s lo w:Nat} (hl:lo<2^s) (hw:w≠0):Pq.bitn (lo+2^s*w)=s+Pq.bitn w:=by
  obtain ⟨t,ht⟩ : ∃ t,Pq.bitn w=t+1:=⟨Pq.bitn w-1,by have:=Pq.bitn_eq0 (x:=w);omega⟩
  have h1:w<2^(t+1):=Pq.bitn_le.1 (by omega)
  have h2:2^t≤w:=Nat.not_lt.1 fun h=>by have:=Pq.bitn_le.2 h;omega
  rw[ht,←Nat.add_assoc]
  refine Pq.bitn_of ?_ ?_
  · rw[Nat.pow_add]
    exact Nat.le_trans (Nat.mul_le_mul_left _ h2) (Nat.le_add_left _ _)
  · have h3:2^s*w+2^s≤2^s*2^(t+1):=by rw[←Nat.mul_succ];exact Nat.mul_le_mul_left _ h1
    rw[Nat.add_assoc s t 1,Nat.pow_add]
    omega
theorem bp_pow (k:Nat):Pq.bp k=2^(32*k):=by unfold Pq.bp;rw[Nat.pow_mul]
def rw' (L Q:Nat):List Int:=(List.range L).map fun j=>((Pq.wd Q j:Nat):Int)
theorem rw_len (L Q:Nat):(rw' L Q).length=L:=by simp[rw']
theorem rw_words (L Q:Nat):Words (rw' L Q):=fun v hv=>by
  obtain ⟨j,_,rfl⟩:=List.mem_map.1 hv
  have:=Pq.wd_lt Q j
  omega
theorem rw_val {L Q:Nat} (h:Q<Pq.bp L):valL (rw' L Q)=Q:=by unfold rw';rw[val_range];exact Nat.mod_eq_of_lt h
theorem rw_get {L Q i:Nat} (h:i<L):(rw' L Q)[i]?=some ((Pq.wd Q i:Nat):Int):=by simp[rw',h]
theorem words_inj : ∀ {l k:List Int},Words l→Words k→l.length=k.length→valL l=valL k→l=k
  | [],[],_,_,_,_=>rfl
  | [],_::_,_,_,h,_=>by simp at h
  | _::_,[],_,_,h,_=>by simp at h
  | x::l,y::k,hl,hk,h,hv=>by
    have hx:=hl x (by simp)
    have hy:=hk y (by simp)
    rw[valL,valL]at hv
    have e1:valL l=valL k:=by omega
    have e2:x=y:=by omega
    rw[e2,words_inj (tail_words hl) (tail_words hk) (by simpa using h) e1]
theorem rw_of {l:List Int} {L Q:Nat} (h:Words l) (hl:l.length=L) (hv:valL l=Q):l=rw' L Q:=by
  have hq:Q<Pq.bp L:=by rw[←hv,←hl];exact val_words h
  exact words_inj h (rw_words _ _) (by rw[hl,rw_len]) (by rw[hv,rw_val hq])
theorem rw_zero (L:Nat):List.replicate L 0=rw' L 0:=rw_of (words_zero L) (by simp) (val_zero L)
theorem rw_set {L Q i:Nat} {v:Int} (hq:Q<Pq.bp L) (hi:i<L) (h0:0≤v) (h1:v<4294967296) {Q':Nat} (e:(Q':Int)=Q+Pq.bp i*(v-(Pq.wd Q i:Nat))):(rw' L Q).set i v=rw' L Q':=by
  refine rw_of (words_set (rw_words _ _) h0 h1) (by rw[List.length_set,rw_len]) ?_
  have:=val_set (rw_words L Q) h0 (rw_get hi)
  rw[rw_val hq]at this
  omega
theorem w_32 (z:Int):IntKind.u32.wrap z=z%4294967296:=by rw[IntKind.wrap_u32]
theorem p32_64 (z:Int):Int.fdiv z ((2:Int)^min (Int.toNat 32) (IntKind.bits .u64))=z/4294967296:=by
  have p32:(2:Int)^min (Int.toNat 32) (IntKind.bits .u64)=4294967296:=by decide
  rw[p32]
  exact Int.fdiv_eq_ediv_of_nonneg _ (by decide)
theorem row_cases {l:List Int} {i:Int} (h:0≤i) (hw:Words l):(i<(l.length:Int) ∧ ∃ u,l[i.toNat]?=some u∧l.drop i.toNat=u::l.drop (i+1).toNat∧0≤u∧u<4294967296)∨(¬ i<(l.length:Int)∧l.drop i.toNat=[]∧l.drop (i+1).toNat=[]):=by
  by_cases hl:i<(l.length:Int)
  · obtain ⟨u,hu⟩:=elem_at h hl
    exact .inl ⟨hl,u,hu,drop_at h hu,hw u (List.mem_of_getElem? hu)⟩
  · exact .inr ⟨hl,drop_end (by omega),drop_end (by omega)⟩
def outSub (x:RSpec.X spSub) (y:RSpec.Y spSub) (g:RSpec.G spSub):T (Exit×List Av×RSpec.Y spSub×RSpec.G spSub):=
  .need (0≤x.2.2.2.1∧x.2.2.2.1≤(List.length x.1:Int)∧List.length x.1≤1000000∧List.length x.2.1≤1000000∧Words x.1∧Words x.2.1∧(x.2.2.1=0∨x.2.2.1=1))
    (match g with
    | none=>.need (x.2.2.2.1=0) (.ite (decide (sbW ((x.1:List Int).drop x.2.2.2.1.toNat) ((x.2.1:List Int).drop x.2.2.2.1.toNat) x.2.2.1=[])) (.ret (.exit 0,[],y,none)) (.up 0 fun k=>.ret (.exit 0,[],y,some (sbW ((x.1:List Int).drop x.2.2.2.1.toNat) ((x.2.1:List Int).drop x.2.2.2.1.toNat) x.2.2.1,k))))
    | some r=>.need ((r.1.length:Int)=x.2.2.2.1) (.up 0 fun k=>.ret (.exit 0,[],y,some ((r.1:List Int)++sbW ((x.1:List Int).drop x.2.2.2.1.toNat) ((x.2.1:List Int).drop x.2.2.2.1.toNat) x.2.2.1,k))))
theorem psubL_core (a b : List Int) (c i : Int) (y : RSpec.Y spSub) (xs : List Int) (cap : Nat) (Q : Exit × List Av × RSpec.Y spSub × RSpec.G spSub → Prop) (h : (outSub (a, b, c, i, ()) y (some (xs, cap))).wp Q) : (tr_psubL ((a, b, c, i, ()), y, (xs, cap))).wp fun r => match r with
      | .again x' y' g'=>((List.length x'.1:Int)-x'.2.2.2.1).toNat<((a.length:Int)-i).toNat∧(outSub x' y' g').wp Q
      | .out e avs y' g'=>Q (e,avs,y',g'):=by
  unfold tr_psubL
  unfold outSub at h ⊢
  simp only[T.wp]at h ⊢
  dsimp only [El,vts,spSub]at h ⊢
  obtain ⟨⟨i0,i1,la,lb,wa,wb,hc⟩,hl,hq⟩:=h
  have c01:0≤c∧c≤1:=by omega
  rcases row_cases i0 wa with ⟨ha,u,hu,du,u0,u1⟩|⟨ha,du,du'⟩
  · rw[IntWalk.i64_in (i+1) (by omega)]
    refine ⟨fun _=>⟨u,i0,hu,?_⟩,fun h=>absurd ha (of_decide_eq_false h)⟩
    rw[IntWalk.i64_in u (by omega),IntWalk.i64_in (u-c) (by omega)]
    rcases row_cases i0 wb with ⟨hb,v,hv,dv,v0,v1⟩|⟨hb,dv,dv'⟩
    · refine ⟨fun _=>⟨v,i0,hv,?_⟩,fun h=>absurd hb (of_decide_eq_false h)⟩
      rw[IntWalk.i64_in v (by omega),IntWalk.i64_in (u-c-v) (by omega)]
      rw[du,dv,sbW]at hq
      refine ⟨fun hd=>?_,fun hd=>?_⟩
      · have hd:=of_decide_eq_true hd
        rw[show sbD (u-c-v)=u-c-v+4294967296 from if_pos hd,show sbC (u-c-v)=1 from if_pos hd]at hq
        rw[IntWalk.i64_in (u-c-v+4294967296) (by omega),w_32,show (u-c-v+4294967296)%4294967296=u-c-v+4294967296 by omega]
        simp only[List.length_append,List.length_cons,List.length_nil,Go.maxLen,List.append_assoc,List.singleton_append,List.cons_append,List.nil_append,true_and,and_true]at hq ⊢
        exact ⟨⟨by omega,by omega⟩,⟨by omega,⟨by omega,by omega,la,lb,wa,wb,by simp⟩,by omega,hq⟩,fun k hk=>⟨by omega,⟨by omega,by omega,la,lb,wa,wb,by simp⟩,by omega,hq⟩⟩
      · have hd:=of_decide_eq_false hd
        rw[show sbD (u-c-v)=u-c-v from if_neg hd,show sbC (u-c-v)=0 from if_neg hd]at hq
        rw[w_32,show (u-c-v)%4294967296=u-c-v by omega]
        simp only[List.length_append,List.length_cons,List.length_nil,Go.maxLen,List.append_assoc,List.singleton_append,List.cons_append,List.nil_append,true_and,and_true]at hq ⊢
        exact ⟨⟨by omega,by omega⟩,⟨by omega,⟨by omega,by omega,la,lb,wa,wb,by simp⟩,by omega,hq⟩,fun k hk=>⟨by omega,⟨by omega,by omega,la,lb,wa,wb,by simp⟩,by omega,hq⟩⟩
    · refine ⟨fun h=>absurd (of_decide_eq_true h) hb,fun _=>?_⟩
      rw[du,dv,sbW]at hq
      refine ⟨fun hd=>?_,fun hd=>?_⟩
      · have hd:=of_decide_eq_true hd
        rw[show sbD (u-c)=u-c+4294967296 from if_pos hd,show sbC (u-c)=1 from if_pos hd]at hq
        rw[IntWalk.i64_in (u-c+4294967296) (by omega),w_32,show (u-c+4294967296)%4294967296=u-c+4294967296 by omega,dv']
        simp only[List.length_append,List.length_cons,List.length_nil,Go.maxLen,List.append_assoc,List.singleton_append,List.cons_append,List.nil_append,true_and,and_true]at hq ⊢
        exact ⟨⟨by omega,by omega⟩,⟨by omega,⟨by omega,by omega,la,lb,wa,wb,by simp⟩,by omega,hq⟩,fun k hk=>⟨by omega,⟨by omega,by omega,la,lb,wa,wb,by simp⟩,by omega,hq⟩⟩
      · have hd:=of_decide_eq_false hd
        rw[show sbD (u-c)=u-c from if_neg hd,show sbC (u-c)=0 from if_neg hd]at hq
        rw[w_32,show (u-c)%4294967296=u-c by omega,dv']
        simp only[List.length_append,List.length_cons,List.length_nil,Go.maxLen,List.append_assoc,List.singleton_append,List.cons_append,List.nil_append,true_and,and_true]at hq ⊢
        exact ⟨⟨by omega,by omega⟩,⟨by omega,⟨by omega,by omega,la,lb,wa,wb,by simp⟩,by omega,hq⟩,fun k hk=>⟨by omega,⟨by omega,by omega,la,lb,wa,wb,by simp⟩,by omega,hq⟩⟩
  · refine ⟨fun h=>absurd (of_decide_eq_true h) ha,fun _=>⟨⟨trivial,trivial⟩,?_⟩⟩
    rw[du,sbW,List.append_nil]at hq
    exact hq cap (Nat.zero_le _)
theorem psubL_core0 (a b : List Int) (c i : Int) (y : RSpec.Y spSub) (Q : Exit × List Av × RSpec.Y spSub × RSpec.G spSub → Prop) (h : (outSub (a, b, c, i, ()) y none).wp Q) : (tr_psubL0 ((a, b, c, i, ()), y)).wp fun r => match r with
      | .again x' y' g'=>((List.length x'.1:Int)-x'.2.2.2.1).toNat<((a.length:Int)-i).toNat∧(outSub x' y' g').wp Q
      | .out e avs y' g'=>Q (e,avs,y',g'):=by
  unfold tr_psubL0
  unfold outSub at h ⊢
  simp only[T.wp]at h ⊢
  dsimp only [El,vts,spSub]at h ⊢
  obtain ⟨⟨i0,i1,la,lb,wa,wb,hc⟩,hi,hz,hq⟩:=h
  have c01:0≤c∧c≤1:=by omega
  rcases row_cases i0 wa with ⟨ha,u,hu,du,u0,u1⟩|⟨ha,du,du'⟩
  · rw[IntWalk.i64_in (i+1) (by omega)]
    refine ⟨fun _=>⟨u,i0,hu,?_⟩,fun h=>absurd ha (of_decide_eq_false h)⟩
    rw[IntWalk.i64_in u (by omega),IntWalk.i64_in (u-c) (by omega)]
    rcases row_cases i0 wb with ⟨hb,v,hv,dv,v0,v1⟩|⟨hb,dv,dv'⟩
    · refine ⟨fun _=>⟨v,i0,hv,?_⟩,fun h=>absurd hb (of_decide_eq_false h)⟩
      rw[IntWalk.i64_in v (by omega),IntWalk.i64_in (u-c-v) (by omega)]
      rw[du,dv,sbW]at hq
      refine ⟨fun hd=>?_,fun hd=>?_⟩
      · have hd:=of_decide_eq_true hd
        rw[show sbD (u-c-v)=u-c-v+4294967296 from if_pos hd,show sbC (u-c-v)=1 from if_pos hd]at hq
        rw[IntWalk.i64_in (u-c-v+4294967296) (by omega),w_32,show (u-c-v+4294967296)%4294967296=u-c-v+4294967296 by omega]
        simp only[List.length_append,List.length_cons,List.length_nil,Go.maxLen,List.append_assoc,List.singleton_append,List.cons_append,List.nil_append,true_and,and_true,reduceCtorEq,decide_false,forall_const]at hq ⊢
        exact ⟨⟨by omega,by omega⟩,fun k hk=>⟨by omega,⟨by omega,by omega,la,lb,wa,wb,by simp⟩,by omega,hq⟩⟩
      · have hd:=of_decide_eq_false hd
        rw[show sbD (u-c-v)=u-c-v from if_neg hd,show sbC (u-c-v)=0 from if_neg hd]at hq
        rw[w_32,show (u-c-v)%4294967296=u-c-v by omega]
        simp only[List.length_append,List.length_cons,List.length_nil,Go.maxLen,List.append_assoc,List.singleton_append,List.cons_append,List.nil_append,true_and,and_true,reduceCtorEq,decide_false,forall_const]at hq ⊢
        exact ⟨⟨by omega,by omega⟩,fun k hk=>⟨by omega,⟨by omega,by omega,la,lb,wa,wb,by simp⟩,by omega,hq⟩⟩
    · refine ⟨fun h=>absurd (of_decide_eq_true h) hb,fun _=>?_⟩
      rw[du,dv,sbW]at hq
      refine ⟨fun hd=>?_,fun hd=>?_⟩
      · have hd:=of_decide_eq_true hd
        rw[show sbD (u-c)=u-c+4294967296 from if_pos hd,show sbC (u-c)=1 from if_pos hd]at hq
        rw[IntWalk.i64_in (u-c+4294967296) (by omega),w_32,show (u-c+4294967296)%4294967296=u-c+4294967296 by omega,dv']
        simp only[List.length_append,List.length_cons,List.length_nil,Go.maxLen,List.append_assoc,List.singleton_append,List.cons_append,List.nil_append,true_and,and_true,reduceCtorEq,decide_false,forall_const]at hq ⊢
        exact ⟨⟨by omega,by omega⟩,fun k hk=>⟨by omega,⟨by omega,by omega,la,lb,wa,wb,by simp⟩,by omega,hq⟩⟩
      · have hd:=of_decide_eq_false hd
        rw[show sbD (u-c)=u-c from if_neg hd,show sbC (u-c)=0 from if_neg hd]at hq
        rw[w_32,show (u-c)%4294967296=u-c by omega,dv']
        simp only[List.length_append,List.length_cons,List.length_nil,Go.maxLen,List.append_assoc,List.singleton_append,List.cons_append,List.nil_append,true_and,and_true,reduceCtorEq,decide_false,forall_const]at hq ⊢
        exact ⟨⟨by omega,by omega⟩,fun k hk=>⟨by omega,⟨by omega,by omega,la,lb,wa,wb,by simp⟩,by omega,hq⟩⟩
  · refine ⟨fun h=>absurd (of_decide_eq_true h) ha,fun _=>?_⟩
    rw[du,sbW]at hz
    exact ⟨trivial,hz rfl⟩
theorem psubL_ok:LoopOk Tryz.prog 0 (bodyOf Tryz.f133 0) (spSub.run outSub):=
  loopR_ok (E:=E25) (L:=fun _=>none) mixed 0 (loops_none _ _ _) spSub (Nat.zero_le _) outSub (fun x _ _=>((List.length x.1:Int)-x.2.2.2.1).toNat) (by
    rintro ⟨a,b,c,i,⟨⟩⟩ y g Q h
    match g,h with
    | some (xs,cap),h =>
      rw[tr_psubL_eq ((a,b,c,i,()),y,(xs,cap))]
      exact psubL_core a b c i y xs cap Q h
    | none,h =>
      rw[tr_psubL0_eq ((a,b,c,i,()),y)]
      exact psubL_core0 a b c i y Q h)
noncomputable def lpSub:Loops:=manyL [(4,spSub.run outSub)]
def outCmp (x:LSpec.X spCmp) (y:LSpec.Y spCmp):T (Exit×List Av×LSpec.Y spCmp):=
  .need (-1≤x.2.2.1∧x.2.2.1<(List.length x.1:Int)∧x.2.2.1<(List.length x.2.1:Int)∧List.length x.1≤1000000) (.ite (decide (cmW x.1 x.2.1 (x.2.2.1+1).toNat=0)) (.ret (.exit 0,[],())) (.ret (.ret,[aI .i64 (cmW x.1 x.2.1 (x.2.2.1+1).toNat)],())))
theorem pcmpL_core (a b : List Int) (i : Int) (Q : Exit × List Av × LSpec.Y spCmp → Prop) (h : (outCmp (a, b, i, ()) ()).wp Q) : (tr_pcmpL ((a, b, i, ()), ())).wp fun r => match r with
      | .again x' y'=>(x'.2.2.1+1).toNat<(i+1).toNat∧(outCmp x' y').wp Q
      | .out e avs y'=>Q (e,avs,y'):=by
  unfold tr_pcmpL
  unfold outCmp at h ⊢
  simp only[T.wp]at h ⊢
  dsimp only [El,vts,spCmp]at h ⊢
  obtain ⟨⟨i0,i1,i2,la⟩,hz,hq⟩:=h
  refine ⟨fun hge=>?_,fun hlt=>?_⟩
  · have hge:=of_decide_eq_true hge
    obtain ⟨u,hu⟩:=elem_at (l:=a) (i:=i) hge i1
    obtain ⟨v,hv⟩:=elem_at (l:=b) (i:=i) hge i2
    have eu:a.getD i.toNat 0=u:=by rw[List.getD_eq_getElem?_getD,hu];rfl
    have ev:b.getD i.toNat 0=v:=by rw[List.getD_eq_getElem?_getD,hv];rfl
    rw[show (i+1).toNat=i.toNat+1 by omega,cmW,eu,ev]at hz hq
    refine ⟨u,hge,hu,v,hge,hv,fun hd=>?_,fun hd=>⟨u,hge,hu,v,hge,hv,fun hd2=>?_,fun hd2=>?_⟩⟩
    · have hd:=of_decide_eq_true hd
      rw[if_pos hd]at hq
      exact hq rfl
    · have hd:=of_decide_eq_false hd
      have hd2:=of_decide_eq_true hd2
      rw[if_neg hd,if_pos hd2]at hq
      exact hq rfl
    · have hd:=of_decide_eq_false hd
      have hd2:=of_decide_eq_false hd2
      rw[if_neg hd,if_neg hd2]at hz hq
      rw[IntWalk.i64_in (i-1) (by omega),show (i-1+1).toNat=i.toNat by omega]
      exact ⟨by omega,⟨by omega,by omega,by omega,la⟩,hz,hq⟩
  · have hlt:=of_decide_eq_false hlt
    rw[show (i+1).toNat=0 by omega]at hz
    exact hz rfl
theorem pcmpL_ok:LoopOk Tryz.prog 0 (bodyOf Tryz.f86 0) (spCmp.run outCmp):=
  loop_ok (E:=E25) (L:=fun _=>none) mixed 0 (loops_none _ _ _) spCmp (Nat.zero_le _) outCmp (fun x _=>(x.2.2.1+1).toNat) (by
    rintro ⟨a,b,i,⟨⟩⟩ ⟨⟩ Q h
    rw[tr_pcmpL_eq ((a,b,i,()),())]
    exact pcmpL_core a b i Q h)
noncomputable def lpCmp:Loops:=oneL 6 (spCmp.run outCmp)
def outBits (x:LSpec.X spBits) (y:LSpec.Y spBits):T (Exit×List Av×LSpec.Y spBits):=
  .need (0≤x.1∧x.1+Pq.bitn x.2.1.toNat≤1000000000∧0≤x.2.1) (.ret (.exit 0,[aI .i64 (x.1+Pq.bitn x.2.1.toNat)],()))
theorem pbitsL_core (n x : Int) (Q : Exit × List Av × LSpec.Y spBits → Prop) (h : (outBits (n, x, ()) ()).wp Q) : (tr_pbitsL ((n, x, ()), ())).wp fun r => match r with
      | .again x' y'=>x'.2.1.toNat<x.toNat∧(outBits x' y').wp Q
      | .out e avs y'=>Q (e,avs,y'):=by
  unfold tr_pbitsL
  unfold outBits at h ⊢
  simp only[T.wp]at h ⊢
  dsimp only [El,vts,spBits]at h ⊢
  obtain ⟨⟨n0,n1,x0⟩,hq⟩:=h
  refine ⟨fun hgt=>?_,fun hle=>?_⟩
  · have hgt:=of_decide_eq_true hgt
    have p1:(2:Int)^min (Int.toNat 1) (IntKind.bits .u32)=2:=by decide
    rw[bitn_half (show x.toNat≠0 by omega)]at n1 hq
    rw[p1,Int.fdiv_eq_ediv_of_nonneg _ (by decide),IntWalk.i64_in (n+1) (by omega),show (x/2).toNat=x.toNat/2 by omega]
    rw[show n+((Pq.bitn (x.toNat/2)+1:Nat):Int)=n+1+Pq.bitn (x.toNat/2) by omega]at hq
    exact ⟨by omega,⟨by omega,by omega,by omega⟩,hq⟩
  · have hle:=of_decide_eq_false hle
    have h0:x=0:=by omega
    subst h0
    rw[show n+((Pq.bitn (Int.toNat 0):Nat):Int)=n by rw[show Pq.bitn (Int.toNat 0)=0 from rfl];omega]at hq
    exact hq
theorem pbitsL_ok:LoopOk Tryz.prog 0 (bodyOf Tryz.f114 0) (spBits.run outBits):=
  loop_ok (E:=E25) (L:=fun _=>none) mixed 0 (loops_none _ _ _) spBits (Nat.zero_le _) outBits (fun x _=>x.2.1.toNat) (by
    rintro ⟨n,x,⟨⟩⟩ ⟨⟩ Q h
    rw[tr_pbitsL_eq ((n,x,()),())]
    exact pbitsL_core n x Q h)
noncomputable def lpBits:Loops:=oneL 5 (spBits.run outBits)
def outComm (x:LSpec.X spComm) (y:LSpec.Y spComm):T (Exit×List Av×LSpec.Y spComm):=
  .need (0≤x.1∧0≤x.2.1) (.ret (.exit 0,[aI .i64 (Nat.gcd x.1.toNat x.2.1.toNat:Nat)],()))
theorem pcommL_core (a b : Int) (Q : Exit × List Av × LSpec.Y spComm → Prop) (h : (outComm (a, b, ()) ()).wp Q) : (tr_pcommL ((a, b, ()), ())).wp fun r => match r with
      | .again x' y'=>x'.2.1.toNat<b.toNat∧(outComm x' y').wp Q
      | .out e avs y'=>Q (e,avs,y'):=by
  unfold tr_pcommL
  unfold outComm at h ⊢
  simp only[T.wp]at h ⊢
  dsimp only [El,vts,spComm]at h ⊢
  obtain ⟨⟨a0,b0⟩,hq⟩:=h
  refine ⟨fun hgt=>?_,fun hle=>?_⟩
  · have hgt:=of_decide_eq_true hgt
    have h1:=Int.emod_nonneg a (show b≠0 by omega)
    have h2:=Int.emod_lt_of_pos a hgt
    rw[Int.tmod_eq_emod_of_nonneg a0]
    have e:(a%b).toNat=a.toNat%b.toNat:=Int.toNat_emod a0 b0
    rw[Nat.gcd_comm,Nat.gcd_rec,Nat.gcd_comm,←e]at hq
    exact ⟨by omega,by omega,⟨b0,h1⟩,hq⟩
  · have hle:=of_decide_eq_false hle
    have h0:b=0:=by omega
    subst h0
    rw[show Int.toNat 0=0 from rfl,Nat.gcd_zero_right,Int.toNat_of_nonneg a0]at hq
    exact hq
theorem pcommL_ok:LoopOk Tryz.prog 0 (bodyOf Tryz.f131 0) (spComm.run outComm):=
  loop_ok (E:=E25) (L:=fun _=>none) mixed 0 (loops_none _ _ _) spComm (Nat.zero_le _) outComm (fun x _=>x.2.1.toNat) (by
    rintro ⟨a,b,⟨⟩⟩ ⟨⟩ Q h
    rw[tr_pcommL_eq ((a,b,()),())]
    exact pcommL_core a b Q h)
noncomputable def lpComm:Loops:=oneL 2 (spComm.run outComm)
def tz (n d:Nat):Nat→Bool
  | 0=>true
  | k+1=>Pq.wd n (31-k)==0&&Pq.wd d (31-k)==0&&tz n d k
theorem wd_top {n m:Nat} (h:n<Pq.bp (m+1)):Pq.wd n m=0↔n<Pq.bp m:=by
  rw[Pq.bp_succ,Nat.mul_comm]at h
  have hp:=Pq.bp_pos m
  have h1:n/Pq.bp m<4294967296:=(Nat.div_lt_iff_lt_mul hp).2 h
  unfold Pq.wd
  rw[Nat.mod_eq_of_lt h1,Nat.div_eq_zero_iff]
  constructor
  · rintro (h|h)
    · omega
    · exact h
  · exact fun h=>.inr h
theorem tz_spec {n d:Nat} (hn:n<Pq.bp 32) (hd:d<Pq.bp 32) : ∀ k,k≤32→(tz n d k=true↔n<Pq.bp (32-k)∧d<Pq.bp (32-k))
  | 0,_=>by simp[tz,hn,hd]
  | k+1,hk=>by
    have ih:=tz_spec hn hd k (by omega)
    have lt : ∀ {x:Nat},x<Pq.bp (31-k)→x<Pq.bp (32-k):=fun {x} h=>by
      rw[show 32-k=(31-k)+1 by omega,Pq.bp_succ]
      omega
    rw[tz,Bool.and_eq_true,Bool.and_eq_true,ih,beq_iff_eq,beq_iff_eq,show 32-(k+1)=31-k by omega]
    constructor
    · rintro ⟨⟨h1,h2⟩,h3,h4⟩
      rw[show 32-k=(31-k)+1 by omega]at h3 h4
      exact ⟨(wd_top h3).1 h1,(wd_top h4).1 h2⟩
    · rintro ⟨h1,h2⟩
      have h3:=lt h1
      have h4:=lt h2
      refine ⟨⟨?_,?_⟩,h3,h4⟩
      · rw[show 32-k=(31-k)+1 by omega]at h3
        exact (wd_top h3).2 h1
      · rw[show 32-k=(31-k)+1 by omega]at h4
        exact (wd_top h4).2 h2
def outTiny (x:LSpec.X spTiny) (y:LSpec.Y spTiny):T (Exit×List Av×LSpec.Y spTiny):=
  .need (0≤x.1∧x.1≤32) (.ite (tz y.1.1.2.1 y.1.2.2.1 (32-x.1.toNat)) (.ret (.exit 0,[],y)) (.ret (.ret,[aI .i64 0,aI .i64 0,aB false],y)))
theorem ptinyL_core (i : Int) (f : F) (Q : Exit × List Av × LSpec.Y spTiny → Prop) (h : (outTiny (i, ()) (f, ())).wp Q) : (tr_ptinyL ((i, ()), (f, ()))).wp fun r => match r with
      | .again x' y'=>(32-x'.1).toNat<(32-i).toNat∧(outTiny x' y').wp Q
      | .out e avs y'=>Q (e,avs,y'):=by
  unfold tr_ptinyL
  unfold outTiny at h ⊢
  simp only[T.wp]at h ⊢
  dsimp only [El,vts,bts,spTiny]at h ⊢
  obtain ⟨⟨i0,i1⟩,hz,hq⟩:=h
  refine ⟨fun hlt=>?_,fun hge=>?_⟩
  · have hlt:=of_decide_eq_true hlt
    rw[show 32-i.toNat=(31-i.toNat)+1 by omega,tz,show 31-(31-i.toNat)=i.toNat by omega]at hz hq
    rw[IntWalk.i64_in (i+1) (by omega)]
    refine ⟨⟨by omega,by omega⟩,by omega,fun hne=>?_,fun heq=>⟨⟨by omega,by omega⟩,by omega,fun hne=>?_,fun heq2=>?_⟩⟩
    · refine hq ?_
      have:Pq.wd f.1.2.1 i.toNat≠0:=fun e=>by rw[e]at hne;simp at hne
      simp[this]
    · refine hq ?_
      have:Pq.wd f.2.2.1 i.toNat≠0:=fun e=>by rw[e]at hne;simp at hne
      simp[this]
    · have e1:Pq.wd f.1.2.1 i.toNat=0:=by simpa using heq
      have e2:Pq.wd f.2.2.1 i.toNat=0:=by simpa using heq2
      rw[e1,e2]at hz hq
      simp only[beq_self_eq_true,Bool.true_and]at hz hq
      rw[show 32-(i+1).toNat=31-i.toNat by omega]
      exact ⟨by omega,⟨by omega,by omega⟩,hz,hq⟩
  · have hge:=of_decide_eq_false hge
    rw[show 32-i.toNat=0 by omega]at hz
    exact hz rfl
theorem ptinyL_ok:LoopOk Tryz.prog 0 (bodyOf Tryz.f85 0) (spTiny.run outTiny):=
  loop_ok (E:=E25) (L:=fun _=>none) mixed 0 (loops_none _ _ _) spTiny (Nat.zero_le _) outTiny (fun x _=>(32-x.1).toNat) (by
    rintro ⟨i,⟨⟩⟩ ⟨f,⟨⟩⟩ Q h
    rw[tr_ptinyL_eq ((i,()),(f,()))]
    exact ptinyL_core i f Q h)
noncomputable def lpTiny:Loops:=oneL 2 (spTiny.run outTiny)
theorem shl_lt {V i k s:Nat} (hV:V<Pq.bp i) (hs:s<32):V*2^s*Pq.bp k/Pq.bp (i+k)<2^s∧V*2^s*Pq.bp k<Pq.bp (i+k+1):=by
  have h2:2^s≤4294967296:=by
    rw[show 4294967296=2^32 from rfl];exact Nat.pow_le_pow_right (by decide) (by omega)
  have h1:V*2^s<Pq.bp i*2^s:=Nat.mul_lt_mul_of_pos_right hV (Nat.two_pow_pos s)
  refine ⟨?_,?_⟩
  · rw[Pq.bp_add,Nat.mul_div_mul_right _ _ (Pq.bp_pos k)]
    rw[Nat.div_lt_iff_lt_mul (Pq.bp_pos i),Nat.mul_comm (2^s)]
    exact h1
  · rw[Pq.bp_succ,Pq.bp_add,Nat.mul_right_comm (Pq.bp i)]
    refine Nat.mul_lt_mul_of_pos_right ?_ (Pq.bp_pos k)
    exact Nat.lt_of_lt_of_le h1 (Nat.mul_le_mul_left _ h2)
theorem or_low {t m s:Nat} (hs:s<32) (ht:t<2^s) (hm:m<4294967296) (hd:2^s∣m):((BitVec.ofInt (IntKind.bits .u32) (t:Int) ||| BitVec.ofInt (IntKind.bits .u32) (m:Int)).toNat=t+m)∧t+m<4294967296:=by
  have h2:2^s≤4294967296:=by
    rw[show 4294967296=2^32 from rfl];exact Nat.pow_le_pow_right (by decide) (by omega)
  obtain ⟨q,rfl⟩:=hd
  have hp:4294967296=2^s*2^(32-s):=by rw[←Nat.pow_add,show s+(32-s)=32 by omega]
  have hsum:t+2^s*q<4294967296:=by
    have hq:q<2^(32-s):=by
      rw[hp]at hm
      exact Nat.lt_of_mul_lt_mul_left hm
    have:2^s*q+2^s≤2^s*2^(32-s):=by rw[←Nat.mul_succ];exact Nat.mul_le_mul_left _ hq
    rw[hp]
    omega
  have e1:(BitVec.ofInt (IntKind.bits .u32) (t:Int)).toNat=t:=by
    rw[BitVec.toNat_ofInt]
    show ((t:Int)%4294967296).toNat=_
    omega
  have e2:(BitVec.ofInt (IntKind.bits .u32) ((2^s*q:Nat):Int)).toNat=2^s*q:=by
    rw[BitVec.toNat_ofInt]
    show (((2^s*q:Nat):Int)%4294967296).toNat=_
    generalize 2^s*q=z at *
    omega
  refine ⟨?_,hsum⟩
  rw[BitVec.toNat_or,e1,e2,Nat.or_comm,←Nat.two_pow_add_eq_or_of_lt ht q,Nat.add_comm]
theorem shl_low {u s:Nat} (hs:s<32):2^s∣u*2^s%4294967296:=by
  have hp:4294967296=2^(32-s)*2^s:=by rw[←Nat.pow_add,show 32-s+s=32 by omega]
  rw[hp,Nat.mul_mod_mul_right]
  exact Nat.dvd_mul_left _ _
theorem shl_step {V i k s u L t:Nat} (hV:V<Pq.bp i) (hs:s<32) (hu:u<4294967296) (hL:i+k+1<L) (ht:Pq.wd (V*2^s*Pq.bp k) (i+k)=t) :
    t<2^s∧((rw' L (V*2^s*Pq.bp k)).set (i+k) ((t+u*2^s%4294967296:Nat):Int)).set (i+k+1) ((u*2^s/4294967296:Nat):Int)=rw' L ((V+Pq.bp i*u)*2^s*Pq.bp k):=by
  obtain ⟨h1,h2⟩:=shl_lt (k:=k) hV hs
  have h3:2^s≤4294967296:=by
    rw[show 4294967296=2^32 from rfl];exact Nat.pow_le_pow_right (by decide) (by omega)
  have et:V*2^s*Pq.bp k/Pq.bp (i+k)=t:=by
    unfold Pq.wd at ht
    rw[Nat.mod_eq_of_lt (by omega)]at ht
    exact ht
  rw[et]at h1
  refine ⟨h1,?_⟩
  obtain ⟨o1,o2⟩:=or_low hs h1 (Nat.mod_lt (u*2^s) (by decide)) (shl_low (u:=u) hs)
  have hbL:Pq.bp (i+k+1)≤Pq.bp L:=Pq.bp_mono (by omega)
  have hx:u*2^s/4294967296<4294967296:=by
    rw[Nat.div_lt_iff_lt_mul (by decide)]
    exact Nat.mul_lt_mul_of_lt_of_le hu h3 (by decide)
  have edm:=Nat.mod_add_div (u*2^s) 4294967296
  have eQ:(V+Pq.bp i*u)*2^s*Pq.bp k=V*2^s*Pq.bp k+Pq.bp (i+k)*(u*2^s):=by
    rw[Nat.add_mul,Nat.add_mul,Pq.bp_add]
    congr 1
    simp only[Nat.mul_assoc,Nat.mul_comm,Nat.mul_left_comm]
  rw[eQ]
  have hQb:V*2^s*Pq.bp k<Pq.bp (i+k)*(t+1):=by
    rw[←et];exact Nat.lt_mul_div_succ _ (Pq.bp_pos _)
  generalize V*2^s*Pq.bp k=Q at *
  generalize u*2^s=x at *
  have hb:=Pq.bp_succ (i+k)
  have r1:(rw' L Q).set (i+k) ((t+x%4294967296:Nat):Int)=rw' L (Q+Pq.bp (i+k)*(x%4294967296)):=by
    refine rw_set (by omega) (by omega) (by omega) (by omega) ?_
    rw[ht]
    simp only[Int.natCast_add,Int.natCast_mul]
    congr 1
    rw[Int.add_comm,Int.add_sub_cancel]
  have hQ1:Q+Pq.bp (i+k)*(x%4294967296)<Pq.bp (i+k+1):=by
    rw[hb]
    have:Pq.bp (i+k)*(t+1)+Pq.bp (i+k)*(x%4294967296)≤Pq.bp (i+k)*4294967296:=by
      rw[←Nat.mul_add];exact Nat.mul_le_mul_left _ (by omega)
    omega
  rw[r1]
  refine rw_set (by omega) (by omega) (by omega) (by omega) ?_
  rw[Pq.wd_top hQ1 (Nat.le_refl _),hb]
  have e1:(x:Int)=(x%4294967296:Nat)+4294967296*(x/4294967296:Nat):=by omega
  generalize x%4294967296=lo at *
  generalize x/4294967296=hi at *
  simp only[Int.natCast_add,Int.natCast_mul,e1,Int.mul_add,Int.sub_zero,Int.ofNat_zero,Int.natCast_zero,Int.mul_assoc]
  rw[Int.add_assoc]
  rfl
def outShl (x:RSpec.X spShl) (y:RSpec.Y spShl) (g:RSpec.G spShl):T (Exit×List Av×RSpec.Y spShl×RSpec.G spShl):=
  match g with
  | none=>.fail
  | some r=>.need (0≤x.2.2.1∧x.2.2.1≤(List.length x.1:Int)∧List.length x.1≤1000000∧0≤x.2.1∧x.2.1≤100000000∧Words x.1∧(r.1:List Int)=rw' (List.length x.1+x.2.1.toNat/32+1) (valL ((x.1:List Int).take x.2.2.1.toNat)*2^(x.2.1.toNat%32)*Pq.bp (x.2.1.toNat/32)))
      (.ret (.exit 0,[],y,some (rw' (List.length x.1+x.2.1.toNat/32+1) (valL x.1*2^(x.2.1.toNat%32)*Pq.bp (x.2.1.toNat/32)),r.2)))
theorem pshlL_core (a : List Int) (n i : Int) (y : RSpec.Y spShl) (xs : List Int) (cap : Nat) (Q : Exit × List Av × RSpec.Y spShl × RSpec.G spShl → Prop) (h : (outShl (a, n, i, ()) y (some (xs, cap))).wp Q) : (tr_pshlL ((a, n, i, ()), y, (xs, cap))).wp fun r => match r with
      | .again x' y' g'=>((List.length x'.1:Int)-x'.2.2.1).toNat<((a.length:Int)-i).toNat∧(outShl x' y' g').wp Q
      | .out e avs y' g'=>Q (e,avs,y',g'):=by
  unfold tr_pshlL
  unfold outShl at h ⊢
  simp only[T.wp]at h ⊢
  dsimp only [El,vts,spShl]at h ⊢
  obtain ⟨⟨i0,i1,la,n0,n1,wa,hx⟩,hq⟩:=h
  subst hx
  refine ⟨fun hlt=>?_,fun hge=>?_⟩
  · have hlt:=of_decide_eq_true hlt
    obtain ⟨u,hu⟩:=elem_at (l:=a) (i:=i) i0 hlt
    obtain ⟨u0,u1⟩:=wa u (List.mem_of_getElem? hu)
    have eu:a.getD i.toNat 0=u:=by rw[List.getD_eq_getElem?_getD,hu];rfl
    have hV:=val_words (take_words wa i.toNat)
    rw[List.length_take,Nat.min_eq_left (by omega)]at hV
    have et:=take_val (a:=a) (n:=i.toNat) (by omega)
    rw[eu]at et
    obtain ⟨st1,st2⟩:=shl_step (V:=valL (a.take i.toNat)) (i:=i.toNat) (k:=n.toNat/32) (s:=n.toNat%32) (u:=u.toNat) (L:=a.length+n.toNat/32+1) hV (by omega) (by omega) (by omega) rfl
    have e1:IntKind.i64.wrap (i+IntKind.i64.wrap (Int.tdiv n 32))=i+((n.toNat/32:Nat):Int):=by
      rw[Int.tdiv_eq_ediv_of_nonneg n0,IntWalk.i64_in (n/32) (by omega),IntWalk.i64_in _ (by omega)];omega
    have e2:IntKind.u64.wrap (Int.tmod n 32)=((n.toNat%32:Nat):Int):=by
      rw[Int.tmod_eq_emod_of_nonneg n0,w_u64 (by omega)];omega
    have e3:min (Int.toNat ((n.toNat%32:Nat):Int)) (IntKind.bits .u64)=n.toNat%32:=by
      show min (Int.toNat ((n.toNat%32:Nat):Int)) 64=n.toNat%32
      omega
    have hs2:2^(n.toNat%32)≤2147483648:=by
      rw[show 2147483648=2^31 from rfl];exact Nat.pow_le_pow_right (by decide) (by omega)
    have hm:u.toNat*2^(n.toNat%32)≤4294967296*2147483648:=Nat.mul_le_mul (by omega) hs2
    have e4:IntKind.u64.wrap (u*2^(n.toNat%32))=((u.toNat*2^(n.toNat%32):Nat):Int):=by
      have:u*2^(n.toNat%32)=((u.toNat*2^(n.toNat%32):Nat):Int):=by
        rw[Int.natCast_mul,Int.toNat_of_nonneg u0,Int.natCast_pow];rfl
      rw[this,w_u64 (by omega)]
    have e5:IntKind.i64.wrap (i+((n.toNat/32:Nat):Int)+1)=i+((n.toNat/32:Nat):Int)+1:=IntWalk.i64_in _ (by omega)
    have e6:IntKind.i64.wrap (i+1)=i+1:=IntWalk.i64_in _ (by omega)
    have e7:(i+((n.toNat/32:Nat):Int)).toNat=i.toNat+n.toNat/32:=by omega
    have e8:(i+((n.toNat/32:Nat):Int)+1).toNat=i.toNat+n.toNat/32+1:=by omega
    obtain ⟨o1,o2⟩:=or_low (m:=u.toNat*2^(n.toNat%32)%4294967296) (by omega) st1 (Nat.mod_lt _ (by decide)) (shl_low (by omega))
    have e9:IntKind.u32.wrap ((u.toNat*2^(n.toNat%32):Nat):Int)=((u.toNat*2^(n.toNat%32)%4294967296:Nat):Int):=by rw[w_32];omega
    have e10:IntKind.u32.wrap (((u.toNat*2^(n.toNat%32):Nat):Int)/4294967296)=((u.toNat*2^(n.toNat%32)/4294967296:Nat):Int):=by rw[w_32];omega
    refine ⟨u,i0,hu,?_⟩
    simp only[e1,e2,e3,e5,e6,e7,e8,w_u64 (show 0≤u∧u<18446744073709551616 by omega),e4,p32_64,e9,e10,rw_len,List.length_set]
    refine ⟨by decide,by omega,by decide,by decide,⟨by omega,by omega⟩,_,by omega,rw_get (by omega),?_⟩
    have e11 : ∀ z:Nat,z<4294967296→IntKind.u32.wrap (z:Int)=z:=fun z hz=>by rw[w_32];omega
    rw[o1,e11 _ o2,st2]
    refine ⟨⟨by omega,by omega⟩,by omega,by decide,⟨by omega,by omega⟩,by omega,⟨trivial,trivial⟩,by omega,⟨by omega,by omega,la,n0,n1,wa,?_⟩,hq⟩
    rw[show (i+1).toNat=i.toNat+1 by omega,et]
  · have hge:=of_decide_eq_false hge
    rw[show i.toNat=a.length by omega,List.take_length]
    exact ⟨⟨trivial,trivial⟩,hq⟩
theorem pshlL_ok:LoopOk Tryz.prog 0 (bodyOf Tryz.f153 0) (spShl.run outShl):=
  loopR_ok (E:=E25) (L:=fun _=>none) mixed 0 (loops_none _ _ _) spShl (Nat.zero_le _) outShl (fun x _ _=>((List.length x.1:Int)-x.2.2.1).toNat) (by
    rintro ⟨a,n,i,⟨⟩⟩ y g Q h
    match g,h with
    | some (xs,cap),h =>
      rw[tr_pshlL_eq ((a,n,i,()),y,(xs,cap))]
      exact pshlL_core a n i y xs cap Q h
    | none,h=>exact h.elim)
noncomputable def lpShl:Loops:=manyL [(5,spShl.run outShl)]
noncomputable def E25s:Env Tryz.prog:=E25.fz [(13,[5])]
noncomputable def E25h:Env Tryz.prog:=E25.fz [(10,[5])]
noncomputable def tr_psub (x:Els [(false,.sl (.int .u32)),(false,.sl (.int .u32))]):T Av:=
 .need (True) (.need ((0:El (Cd.int .i64))≤(0:Int)∧(0:Int)≤(↑(List.length (x.1)):Int)∧List.length (x.1)≤(1000000:Nat)∧List.length x.2.1≤(1000000:Nat)∧Words (x.1)∧Words x.2.1∧((0:Int)=(0:El (Cd.int .i64))∨(0:Int)=(1:El (Cd.int .i64)))) (.need ((0:Int)=(0:El (Cd.int .i64))) (.ite (decide (sbW (List.drop (Int.toNat (0:Int)) (x.1)) (List.drop (Int.toNat (0:Int)) x.2.1) (0:Int)=[]))
     (.need (lenOk (List.length ([]:List Int))) (.ret (.one (.ds (Cd.int .u32) (trimmed [])))))
     (.up ((0:Nat)) (fun v0 =>
      .need (List.length (sbW (List.drop (Int.toNat (0:Int)) (x.1)) (List.drop (Int.toNat (0:Int)) x.2.1) (0:Int))≤List.length (sbW (List.drop (Int.toNat (0:Int)) (x.1)) (List.drop (Int.toNat (0:Int)) x.2.1) (0:Int))) (.need (lenOk (List.length (List.take (List.length (sbW (List.drop (Int.toNat (0:Int)) (x.1)) (List.drop (Int.toNat (0:Int)) x.2.1) (0:Int))) (sbW (List.drop (Int.toNat (0:Int)) (x.1)) (List.drop (Int.toNat (0:Int)) x.2.1) (0:Int))))) (.ret (.one (.ds (Cd.int .u32) (trimmed (List.take (List.length (sbW (List.drop (Int.toNat (0:Int)) (x.1)) (List.drop (Int.toNat (0:Int)) x.2.1) (0:Int))) (sbW (List.drop (Int.toNat (0:Int)) (x.1)) (List.drop (Int.toNat (0:Int)) x.2.1) (0:Int)))))))))))))
theorem tr_psub_eq (x:Els [(false,.sl (.int .u32)),(false,.sl (.int .u32))]):fnP E25s lpSub Tryz.f133 (encs [(false,.sl (.int .u32)),(false,.sl (.int .u32))] x)=tr_psub x:=by kernel_rfl
noncomputable def tr_pcmp (x:Els [(false,.sl (.int .u32)),(false,.sl (.int .u32))]):T Av:=
 .ite ((↑(List.length (x.1)):Int) != (↑(List.length x.2.1):Int))
  (.ite (decide ((↑(List.length (x.1)):Int)<(↑(List.length x.2.1):Int)))
   (.ret (.one (.v (.int .i64 ((-1:Int))))))
   (.ret (.one (.v (.int .i64 ((1:Int)))))))
  (.need ((-1:El (Cd.int .i64))≤IntKind.wrap .i64 ((↑(List.length (x.1)):Int)-(1:Int))∧IntKind.wrap .i64 ((↑(List.length (x.1)):Int)-(1:Int))<(↑(List.length (x.1)):Int)∧IntKind.wrap .i64 ((↑(List.length (x.1)):Int)-(1:Int))<(↑(List.length x.2.1):Int)∧List.length (x.1)≤(1000000:Nat)) (.ite (decide (cmW (x.1) x.2.1 (Int.toNat (IntKind.wrap .i64 ((↑(List.length (x.1)):Int)-(1:Int))+(1:El (Cd.int .i64))))=(0:Int)))
    (.ret (.one (.v (.int .i64 ((0:Int))))))
    (.ret (.one (.v (.int .i64 (cmW (x.1) x.2.1 (Int.toNat (IntKind.wrap .i64 ((↑(List.length (x.1)):Int)-(1:Int))+(1:El (Cd.int .i64)))))))))))
theorem tr_pcmp_eq (x:Els [(false,.sl (.int .u32)),(false,.sl (.int .u32))]):fnP E25 lpCmp Tryz.f86 (encs [(false,.sl (.int .u32)),(false,.sl (.int .u32))] x)=tr_pcmp x:=by kernel_rfl
noncomputable def tr_pbits (x:Els [(false,.sl (.int .u32))]):T Av:=
 .ite ((↑(List.length (x.1)):Int)==(0:Int))
  (.ret (.one (.v (.int .i64 ((0:Int))))))
  (.get (x.1) (IntKind.wrap .i64 ((↑(List.length (x.1)):Int)-(1:Int))) (fun v0 =>
   .need ((0:El (Cd.int .i64))≤IntKind.wrap .i64 ((32:Int)*IntKind.wrap .i64 ((↑(List.length (x.1)):Int)-(1:Int)))∧IntKind.wrap .i64 ((32:Int)*IntKind.wrap .i64 ((↑(List.length (x.1)):Int)-(1:Int)))+(↑(Pq.bitn (Int.toNat v0)):El (Cd.int .i64))≤(1000000000:El (Cd.int .i64))∧(0:El (Cd.int .u32))≤v0) (.ret (.one (.v (.int .i64 (IntKind.wrap .i64 ((32:Int)*IntKind.wrap .i64 ((↑(List.length (x.1)):Int)-(1:Int)))+(↑(Pq.bitn (Int.toNat v0)):Int))))))))
theorem tr_pbits_eq (x:Els [(false,.sl (.int .u32))]):fnP E25 lpBits Tryz.f114 (encs [(false,.sl (.int .u32))] x)=tr_pbits x:=by kernel_rfl
noncomputable def tr_pshl (x:Els [(false,.sl (.int .u32)),(false,.int .i64)]):T Av:=
 .ite ((↑(List.length (x.1)):Int)==(0:Int))
  (.ret (.one (.v (Go.Value.slice Option.none (0:Nat) (0:Nat)))))
  (.need ((32:Int)≠(0:Int)) (.need ((0:Int)≤IntKind.wrap .i64 (IntKind.wrap .i64 ((↑(List.length (x.1)):Int)+IntKind.wrap .i64 (Int.tdiv x.2.1 (32:Int)))+(1:Int))∧IntKind.wrap .i64 (IntKind.wrap .i64 ((↑(List.length (x.1)):Int)+IntKind.wrap .i64 (Int.tdiv x.2.1 (32:Int)))+(1:Int))=IntKind.wrap .i64 (IntKind.wrap .i64 ((↑(List.length (x.1)):Int)+IntKind.wrap .i64 (Int.tdiv x.2.1 (32:Int)))+(1:Int))∧(nat_lit 3+(1:Nat))*Int.toNat (IntKind.wrap .i64 (IntKind.wrap .i64 ((↑(List.length (x.1)):Int)+IntKind.wrap .i64 (Int.tdiv x.2.1 (32:Int)))+(1:Int)))≤(281474976710656:Nat)∧Int.toNat (IntKind.wrap .i64 (IntKind.wrap .i64 ((↑(List.length (x.1)):Int)+IntKind.wrap .i64 (Int.tdiv x.2.1 (32:Int)))+(1:Int)))≤Go.maxLen) (.need (Int.toNat (IntKind.wrap .i64 (IntKind.wrap .i64 ((↑(List.length (x.1)):Int)+IntKind.wrap .i64 (Int.tdiv x.2.1 (32:Int)))+(1:Int)))=List.length (List.replicate (Int.toNat (IntKind.wrap .i64 (IntKind.wrap .i64 ((↑(List.length (x.1)):Int)+IntKind.wrap .i64 (Int.tdiv x.2.1 (32:Int)))+(1:Int)))) (0:Int))∧Int.toNat (IntKind.wrap .i64 (IntKind.wrap .i64 ((↑(List.length (x.1)):Int)+IntKind.wrap .i64 (Int.tdiv x.2.1 (32:Int)))+(1:Int)))=Int.toNat (IntKind.wrap .i64 (IntKind.wrap .i64 ((↑(List.length (x.1)):Int)+IntKind.wrap .i64 (Int.tdiv x.2.1 (32:Int)))+(1:Int)))) (.need ((0:El (Cd.int .i64))≤(0:Int)∧(0:Int)≤(↑(List.length (x.1)):Int)∧List.length (x.1)≤(1000000:Nat)∧(0:El (Cd.int .i64))≤x.2.1∧x.2.1≤(100000000:El (Cd.int .i64))∧Words (x.1)∧List.replicate (Int.toNat (IntKind.wrap .i64 (IntKind.wrap .i64 ((↑(List.length (x.1)):Int)+IntKind.wrap .i64 (Int.tdiv x.2.1 (32:Int)))+(1:Int)))) (0:Int)=rw' (List.length (x.1)+Int.toNat x.2.1/(32:Nat)+(1:Nat)) (valL (List.take (Int.toNat (0:Int)) (x.1))*(2:Nat)^(Int.toNat x.2.1%(32:Nat))*Pq.bp (Int.toNat x.2.1/(32:Nat)))) (.need (List.length (rw' (List.length (x.1)+Int.toNat x.2.1/(32:Nat)+(1:Nat)) (valL (x.1)*(2:Nat)^(Int.toNat x.2.1%(32:Nat))*Pq.bp (Int.toNat x.2.1/(32:Nat))))≤List.length (rw' (List.length (x.1)+Int.toNat x.2.1/(32:Nat)+(1:Nat)) (valL (x.1)*(2:Nat)^(Int.toNat x.2.1%(32:Nat))*Pq.bp (Int.toNat x.2.1/(32:Nat))))) (.need (lenOk (List.length (List.take (List.length (rw' (List.length (x.1)+Int.toNat x.2.1/(32:Nat)+(1:Nat)) (valL (x.1)*(2:Nat)^(Int.toNat x.2.1%(32:Nat))*Pq.bp (Int.toNat x.2.1/(32:Nat))))) (rw' (List.length (x.1)+Int.toNat x.2.1/(32:Nat)+(1:Nat)) (valL (x.1)*(2:Nat)^(Int.toNat x.2.1%(32:Nat))*Pq.bp (Int.toNat x.2.1/(32:Nat))))))) (.ret (.one (.ds (Cd.int .u32) (trimmed (List.take (List.length (rw' (List.length (x.1)+Int.toNat x.2.1/(32:Nat)+(1:Nat)) (valL (x.1)*(2:Nat)^(Int.toNat x.2.1%(32:Nat))*Pq.bp (Int.toNat x.2.1/(32:Nat))))) (rw' (List.length (x.1)+Int.toNat x.2.1/(32:Nat)+(1:Nat)) (valL (x.1)*(2:Nat)^(Int.toNat x.2.1%(32:Nat))*Pq.bp (Int.toNat x.2.1/(32:Nat)))))))))))))))
theorem tr_pshl_eq (x:Els [(false,.sl (.int .u32)),(false,.int .i64)]):fnP E25h lpShl Tryz.f153 (encs [(false,.sl (.int .u32)),(false,.int .i64)] x)=tr_pshl x:=by kernel_rfl
noncomputable def tr_pcommon (x:Els [(false,.int .i64),(false,.int .i64)]):T Av:=
 .lt (if IntKind.wrap .i64 ((0:Int)-x.1)>x.1 then IntKind.wrap .i64 ((0:Int)-x.1) else x.1) (fun v0 =>
  .lt (if IntKind.wrap .i64 ((0:Int)-x.2.1)>x.2.1 then IntKind.wrap .i64 ((0:Int)-x.2.1) else x.2.1) (fun v1 =>
   .need ((0:El (Cd.int .i64))≤v0∧(0:El (Cd.int .i64))≤v1) (.ret (.one (.v (.int .i64 ((↑(Nat.gcd (Int.toNat v0) (Int.toNat v1)):Int))))))))
theorem tr_pcommon_eq (x:Els [(false,.int .i64),(false,.int .i64)]):fnP E25 lpComm Tryz.f131 (encs [(false,.int .i64),(false,.int .i64)] x)=tr_pcommon x:=by kernel_rfl
noncomputable def con_psub:Con Tryz.prog:=⟨133,[],_,cf_psub,val_con (E:=E25s) (L:=lpSub) mixed Tryz.func133 (many_loops (by kernel_rfl) (by simp) (fun i p hp=>by
    match i,hp with
    | 0,hp=>cases hp;exact psubL_ok
    | i+1,hp=>simp at hp)) [(false,.sl (.int .u32)),(false,.sl (.int .u32))] (fun x=>(x.1:List Int)=mg (valL x.1)∧(x.2.1:List Int)=mg (valL x.2.1)∧List.length x.1≤1000000∧valL x.2.1≤valL x.1) (fun x=>.one (.ds (.int .u32) (mg (valL x.1-valL x.2.1)))) fun x hx=>by
  rw[tr_psub_eq]
  obtain ⟨a,b,u⟩:=x
  revert a b
  intro (a:List Int) (b:List Int) (hx:a=mg (valL a)∧b=mg (valL b)∧a.length≤1000000∧valL b≤valL a)
  obtain ⟨ma,mb,l1,hle⟩:=hx
  have wa:Words a:=by rw[ma];exact mg_words _
  have wb:Words b:=by rw[mb];exact mg_words _
  have l2:b.length≤a.length:=by
    have h:=mg_len.1 (Nat.lt_of_le_of_lt hle (val_words wa))
    rw[←mb]at h
    exact h
  unfold tr_psub
  simp only[T.wp]
  dsimp only [El]
  obtain ⟨h1,h2,-⟩:=sbW_spec a b 0 wa wb (.inl rfl) l2
  have e:=sbW_val wa wb l2 hle
  simp only[Int.toNat_zero,List.drop_zero,List.take_length]
  refine ⟨trivial,⟨by omega,by omega,l1,by omega,wa,wb,by simp⟩,trivial,fun hz=>⟨by unfold lenOk;simp,?_⟩,fun _ k _=>⟨Nat.le_refl _,by unfold lenOk;omega,?_⟩⟩
  · have hz:=of_decide_eq_true hz
    rw[hz]at e
    rw[←e,val_nil,mg_zero];rfl
  · rw[trimmed_mg h1,e]⟩
theorem mg_lt_len {a b:Nat} (h:(mg a).length<(mg b).length):a<b:=by
  have h1:a<Pq.bp (mg a).length:=mg_len.2 (Nat.le_refl _)
  have h2:¬ b<Pq.bp (mg a).length:=fun h'=>by have:=mg_len.1 h';omega
  omega
noncomputable def con_pcmp:Con Tryz.prog:=⟨86,[],_,cf_pcmp,val_con (E:=E25) (L:=lpCmp) mixed Tryz.func86 (one_loop pcmpL_ok (by kernel_rfl)) [(false,.sl (.int .u32)),(false,.sl (.int .u32))] (fun x=>(x.1:List Int)=mg (valL x.1)∧(x.2.1:List Int)=mg (valL x.2.1)∧List.length x.1≤1000000∧List.length x.2.1≤1000000) (fun x=>aI .i64 (Pq.cz (valL x.1) (valL x.2.1))) fun x hx=>by
  rw[tr_pcmp_eq]
  obtain ⟨a,b,u⟩:=x
  revert a b
  intro (a:List Int) (b:List Int) (hx:a=mg (valL a)∧b=mg (valL b)∧a.length≤1000000∧b.length≤1000000)
  obtain ⟨ma,mb,l1,l2⟩:=hx
  have wa:Words a:=by rw[ma];exact mg_words _
  have wb:Words b:=by rw[mb];exact mg_words _
  unfold tr_pcmp
  simp only[T.wp]
  dsimp only [El]
  have e1:IntKind.i64.wrap ((a.length:Int)-1)=(a.length:Int)-1:=IntWalk.i64_in _ (by omega)
  rw[e1,show ((a.length:Int)-1+1).toNat=a.length by omega]
  have hab:a.length<b.length→valL a<valL b:=fun h=>mg_lt_len (by rw[←ma,←mb];exact h)
  have hba:b.length<a.length→valL b<valL a:=fun h=>mg_lt_len (by rw[←ma,←mb];exact h)
  refine ⟨fun hne=>⟨fun hlt=>?_,fun hge=>?_⟩,fun heq=>?_⟩
  · have hlt:=of_decide_eq_true hlt
    rw[Pq.cz_lt (by have:=hab (by omega);omega)];rfl
  · have hge:=of_decide_eq_false hge
    have hne:(a.length:Int)≠b.length:=by simpa using hne
    rw[Pq.cz_gt (by have:=hba (by omega);omega)];rfl
  · have heq : a.length = b.length := by have h : (a.length : Int) = b.length := by simpa using heq
                                         omega
    have hs:=cmW_spec wa wb a.length (Nat.le_refl _) (by omega)
    rw[List.take_length,show b.take a.length=b by rw[heq,List.take_length]]at hs
    rw[hs]
    refine ⟨⟨by omega,by omega,by omega,l1⟩,fun hz=>?_,fun _=>rfl⟩
    rw[of_decide_eq_true hz];rfl⟩
noncomputable def con_pbits:Con Tryz.prog:=⟨114,[],_,cf_pbits,val_con (E:=E25) (L:=lpBits) mixed Tryz.func114 (one_loop pbitsL_ok (by kernel_rfl)) [(false,.sl (.int .u32))] (fun x=>(x.1:List Int)=mg (valL x.1)∧List.length x.1≤1000000) (fun x=>aI .i64 (Pq.bitn (valL x.1))) fun x hx=>by
  rw[tr_pbits_eq]
  obtain ⟨a,u⟩:=x
  revert a
  intro (a:List Int) (hx:a=mg (valL a)∧a.length≤1000000)
  obtain ⟨ma,l1⟩:=hx
  have wa:Words a:=by rw[ma];exact mg_words _
  unfold tr_pbits
  simp only[T.wp]
  dsimp only [El]
  refine ⟨fun h0=>?_,fun h0=>?_⟩
  · have h0:a=[]:=List.length_eq_zero_iff.1 (by simpa using h0)
    subst h0;rfl
  · have h0:a.length≠0:=by simpa using h0
    have e1:IntKind.i64.wrap ((a.length:Int)-1)=(a.length:Int)-1:=IntWalk.i64_in _ (by omega)
    have e2:IntKind.i64.wrap (32*((a.length:Int)-1))=32*((a.length:Int)-1):=IntWalk.i64_in _ (by omega)
    obtain ⟨u,hu⟩:=elem_at (l:=a) (i:=(a.length:Int)-1) (by omega) (by omega)
    obtain ⟨u0,u1⟩:=wa u (List.mem_of_getElem? hu)
    have eu:a.getD (a.length-1) 0=u:=by rw[List.getD_eq_getElem?_getD,show a.length-1=((a.length:Int)-1).toNat by omega,hu];rfl
    have et:=take_val (a:=a) (n:=a.length-1) (by omega)
    rw[show a.length-1+1=a.length by omega,List.take_length,eu]at et
    have hV:=val_words (take_words wa (a.length-1))
    rw[List.length_take,Nat.min_eq_left (by omega)]at hV
    have hu0:u.toNat≠0:=fun hz=>by
      rw[hz,Nat.mul_zero,Nat.add_zero]at et
      rw[←et]at hV
      have:=mg_len.1 hV
      rw[←ma]at this
      omega
    have eb:Pq.bitn (valL a)=32*(a.length-1)+Pq.bitn u.toNat:=by
      rw[et,bp_pow]
      rw[bp_pow]at hV
      exact bitn_add hV hu0
    have hb:Pq.bitn u.toNat≤32:=Pq.bitn_le.2 (by show u.toNat<4294967296;omega)
    rw[e1,e2]
    refine ⟨u,by omega,hu,⟨by omega,by omega,u0⟩,?_⟩
    rw[eb,show ((32*(a.length-1)+Pq.bitn u.toNat:Nat):Int)=32*((a.length:Int)-1)+Pq.bitn u.toNat by omega];rfl⟩
noncomputable def con_pshl:Con Tryz.prog:=⟨153,[],_,cf_pshl,val_con (E:=E25h) (L:=lpShl) mixed Tryz.func153 (many_loops (by kernel_rfl) (by simp) (fun i p hp=>by
    match i,hp with
    | 0,hp=>cases hp;exact pshlL_ok
    | i+1,hp=>simp at hp)) [(false,.sl (.int .u32)),(false,.int .i64)] (fun x=>Words x.1∧0<List.length x.1∧List.length x.1≤1000000∧0≤x.2.1∧x.2.1≤100000000) (fun x=>.one (.ds (.int .u32) (mg (valL x.1*2^x.2.1.toNat)))) fun x hx=>by
  rw[tr_pshl_eq]
  obtain ⟨a,n,u⟩:=x
  revert a n
  intro (a:List Int) (n:Int) (hx:Words a∧0<a.length∧a.length≤1000000∧0≤n∧n≤100000000)
  obtain ⟨wa,l0,l1,n0,n1⟩:=hx
  unfold tr_pshl
  simp only[T.wp]
  dsimp only [El]
  have e1:IntKind.i64.wrap (IntKind.i64.wrap ((a.length:Int)+IntKind.i64.wrap (Int.tdiv n 32))+1)=((a.length+n.toNat/32+1:Nat):Int):=by
    rw[Int.tdiv_eq_ediv_of_nonneg n0,IntWalk.i64_in (n/32) (by omega),IntWalk.i64_in ((a.length:Int)+n/32) (by omega),IntWalk.i64_in _ (by omega)];omega
  have etk : ∀ Q,List.take (a.length+n.toNat/32+1) (rw' (a.length+n.toNat/32+1) Q)=rw' (a.length+n.toNat/32+1) Q:=fun Q=>List.take_of_length_le (by rw[rw_len];exact Nat.le_refl _)
  simp only[e1,Int.toNat_natCast,List.length_replicate,Int.toNat_zero,List.take_zero,rw_len,etk]
  have ev:valL a*2^(n.toNat%32)*Pq.bp (n.toNat/32)=valL a*2^n.toNat:=by
    rw[bp_pow,Nat.mul_assoc,←Nat.pow_add,show n.toNat%32+32*(n.toNat/32)=n.toNat by omega]
  have hb:valL a*2^n.toNat<Pq.bp (a.length+n.toNat/32+1):=by
    have h1:=val_words wa
    rw[←ev]
    have h2:=(shl_lt (i:=a.length) (k:=n.toNat/32) (s:=n.toNat%32) h1 (by omega)).2
    exact h2
  rw[show valL []=0 from rfl,Nat.zero_mul,Nat.zero_mul,rw_zero,ev]
  refine ⟨fun h=>by simp at h;subst h;simp at l0,fun _=>⟨by decide,⟨by omega,trivial,by omega,by unfold Go.maxLen;omega⟩,⟨trivial,trivial⟩,⟨by omega,by omega,l1,n0,n1,wa,rfl⟩,Nat.le_refl _,by unfold lenOk;omega,?_⟩⟩
  rw[trimmed_mg (rw_words _ _),rw_val hb]⟩
noncomputable def con_pcommon:Con Tryz.prog:=⟨131,[],_,cf_pcommon,val_con (E:=E25) (L:=lpComm) mixed Tryz.func131 (one_loop pcommL_ok (by kernel_rfl)) [(false,.int .i64),(false,.int .i64)] (fun x => -9223372036854775808<x.1∧x.1<9223372036854775808 ∧ -9223372036854775808<x.2.1∧x.2.1<9223372036854775808) (fun x=>aI .i64 (Nat.gcd x.1.natAbs x.2.1.natAbs:Nat)) fun x hx=>by
  rw[tr_pcommon_eq]
  obtain ⟨a,b,u⟩:=x
  revert a b
  intro (a:Int) (b:Int) (hx : -9223372036854775808<a∧a<9223372036854775808 ∧ -9223372036854775808<b∧b<9223372036854775808)
  obtain ⟨a0,a1,b0,b1⟩:=hx
  unfold tr_pcommon
  simp only[T.wp]
  dsimp only [El]
  rw[IntWalk.i64_in (0-a) (by omega),IntWalk.i64_in (0-b) (by omega)]
  have ea:(if 0-a>a then 0-a else a)=(a.natAbs:Int):=by split <;> omega
  have eb:(if 0-b>b then 0-b else b)=(b.natAbs:Int):=by split <;> omega
  rw[ea,eb]
  exact ⟨⟨by omega,by omega⟩,rfl⟩⟩
noncomputable def tr_pneg (x:Els [(true,cW)]):T Av:=
 .ite x.1.1
  (.ret (.one (.v (.bool (decide ((↑(List.length (mg x.1.2.1)):Int)>(0:Int)))))))
  (.ret (.one (.v (.bool (false)))))
theorem tr_pneg_eq (x:Els [(true,cW)]):fnP E25 (fun _=>none) Tryz.f67 (encs [(true,cW)] x)=tr_pneg x:=by kernel_rfl
noncomputable def con_pneg:Con Tryz.prog:=⟨67,[],_,cf_pneg,tot_con (E:=E25) mixed Tryz.func67 no_loops [(true,cW)] (fun x=>aB (x.1.1&&decide (x.1.2.1≠0))) fun x=>by
  rw[tr_pneg_eq]
  obtain ⟨⟨b,a⟩,u⟩:=x
  revert b a
  intro (b:Bool) (a:Amt)
  unfold tr_pneg
  simp only[T.wp]
  refine ⟨fun h=>?_,fun h=>?_⟩
  · have h:b=true:=h
    subst h
    have:decide (((mg a.1).length:Int)>0)=decide (a.1≠0):=by
      rw[decide_eq_decide]
      constructor
      · intro hl h0;rw[h0,mg_zero]at hl;simp at hl
      · intro h0
        rcases Nat.eq_zero_or_pos (mg a.1).length with h'|h'
        · exact absurd (mg_nil.1 (List.length_eq_zero_iff.1 h')) h0
        · omega
    rw[this];rfl
  · have h:b=false:=h
    subst h;rfl⟩
noncomputable def E26:Env Tryz.prog:=E25.add [con_pneg]
noncomputable def E27:Env Tryz.prog:=E26.add []
noncomputable def E28:Env Tryz.prog:=E27.add []
theorem trimmed_self (x:Nat):trimmed (mg x)=mg x:=by rw[trimmed_mg (mg_words x),val_mg]
theorem wOf_zv {n:Bool} {x:Nat} (h:x<Pq.bp 32):wOf (Pq.zv n x)=(n&&decide (x≠0),⟨x,h⟩):=by
  have ha:(Pq.zv n x).natAbs=x:=Pq.zv_abs n x
  unfold wOf
  rw[dif_pos (by rw[ha];exact h)]
  refine Prod.ext ?_ (Subtype.ext ha)
  cases n with
  | false=>simp[Pq.zv]
  | true =>
    simp only[Pq.zv,if_true,Bool.true_and]
    rw[decide_eq_decide]
    omega
noncomputable def E29:Env Tryz.prog:=E28.add []
end Go.Proofs.YtmcbljjgkmkhcaaGreatDoor
namespace Ax
open Go Go.RowKit
end Ax
namespace Go.Proofs.YtmcbljjgkmkhcaaGreatDoor
open Go.RowKit Ax
noncomputable def E30:Env Tryz.prog:=E29.add []
noncomputable def E31:Env Tryz.prog:=E30.add [con_psub,con_pcmp,con_pbits,con_pshl,con_pcommon]
noncomputable def E31d:Env Tryz.prog:=E31.fz [(13,[7])]
noncomputable def tr_pdivL (x:RSpec.X spDiv×RSpec.Y spDiv×(List (El (RSpec.c spDiv))×Nat)):T (RRd spDiv):=
 .ite (decide (x.1.2.2.1≥(0:Int)))
  (.need (Words x.1.1∧(0:Nat)<List.length x.1.1∧List.length x.1.1≤(1000000:Nat)∧(0:El (Cd.int .i64))≤x.1.2.2.1∧x.1.2.2.1≤(100000000:El (Cd.int .i64))) (.need (x.1.2.1=mg (valL x.1.2.1)∧mg (valL x.1.1*(2:Nat)^Int.toNat x.1.2.2.1)=mg (valL (mg (valL x.1.1*(2:Nat)^Int.toNat x.1.2.2.1)))∧List.length x.1.2.1≤(1000000:Nat)∧List.length (mg (valL x.1.1*(2:Nat)^Int.toNat x.1.2.2.1))≤(1000000:Nat)) (.ite (decide (Pq.cz (↑(valL x.1.2.1):Int) (↑(valL (mg (valL x.1.1*(2:Nat)^Int.toNat x.1.2.2.1))):Int)≥(0:Int)))
     (.need (x.1.2.1 = mg (valL x.1.2.1) ∧ mg (valL x.1.1 * (2 : Nat) ^ Int.toNat x.1.2.2.1) = mg (valL (mg (valL x.1.1 * (2 : Nat) ^ Int.toNat x.1.2.2.1))) ∧ List.length x.1.2.1 ≤ (1000000 : Nat) ∧ valL (mg (valL x.1.1 * (2 : Nat) ^ Int.toNat x.1.2.2.1)) ≤ valL x.1.2.1) (.need ((32 : Int) ≠ (0 : Int)) (.need ((32 : Int) ≠ (0 : Int)) (.need ((0 : Int) ≤ IntKind.wrap .i64 (Int.tdiv x.1.2.2.1 (32 : Int)) ∧ IntKind.wrap .i64 (Int.tdiv x.1.2.2.1 (32 : Int)) < (↑(List.length x.2.2.1) : Int)) (.get x.2.2.1 (IntKind.wrap .i64 (Int.tdiv x.1.2.2.1 (32 : Int))) (fun v0 =>
          .need ((32:Int)≠(0:Int)) (.need ((0:Int)≤IntKind.wrap .u64 (Int.tmod x.1.2.2.1 (32:Int))) (.need ((0:Int)≤IntKind.wrap .i64 (Int.tdiv x.1.2.2.1 (32:Int))∧IntKind.wrap .i64 (Int.tdiv x.1.2.2.1 (32:Int))<(↑(List.length x.2.2.1):Int)) (.need (IntKind.wrap .i64 (Int.tdiv x.1.2.2.1 (32:Int))<(↑(List.length x.2.2.1):Int)) (.need (List.length x.2.2.1=List.length (List.set x.2.2.1 (Int.toNat (IntKind.wrap .i64 (Int.tdiv x.1.2.2.1 (32:Int)))) (IntKind.wrap .u32 (↑(BitVec.toNat (BitVec.ofInt (IntKind.bits .u32) v0 ||| BitVec.ofInt (IntKind.bits .u32) (IntKind.wrap .u32 ((1:Int)*(2:Int)^Min.min (Int.toNat (IntKind.wrap .u64 (Int.tmod x.1.2.2.1 (32:Int)))) (IntKind.bits .u32))))):Int)))∧x.2.2.2=x.2.2.2) (.ret (.again (x.1.1,(mg (valL x.1.2.1-valL (mg (valL x.1.1*(2:Nat)^Int.toNat x.1.2.2.1))),(IntKind.wrap .i64 (x.1.2.2.1-(1:Int)),()))) () (some ((List.set x.2.2.1 (Int.toNat (IntKind.wrap .i64 (Int.tdiv x.1.2.2.1 (32:Int)))) (IntKind.wrap .u32 (↑(BitVec.toNat (BitVec.ofInt (IntKind.bits .u32) v0 ||| BitVec.ofInt (IntKind.bits .u32) (IntKind.wrap .u32 ((1:Int)*(2:Int)^Min.min (Int.toNat (IntKind.wrap .u64 (Int.tmod x.1.2.2.1 (32:Int)))) (IntKind.bits .u32))))):Int)),x.2.2.2)))))))))))))))
     (.need (List.length x.2.2.1=List.length x.2.2.1∧x.2.2.2=x.2.2.2) (.ret (.again (x.1.1,(x.1.2.1,(IntKind.wrap .i64 (x.1.2.2.1-(1:Int)),()))) () (some x.2.2)))))))
  (.need (List.length x.2.2.1=List.length x.2.2.1∧x.2.2.2=x.2.2.2) (.ret (.out (Go.Exit.exit (0:Nat)) [(.one (.ds (Cd.int .u32) x.1.2.1))] () (some x.2.2))))
theorem tr_pdivL_eq (x:RSpec.X spDiv×RSpec.Y spDiv×(List (El (RSpec.c spDiv))×Nat)):RSpec.round spDiv E31 (fun _=>none) (bodyOf Tryz.f116 0) x.1 x.2.1 (some x.2.2)=tr_pdivL x:=by kernel_rfl
theorem div_step {Q m L w:Nat} (hd:2^(m+1)∣Q) (hq:Q<Pq.bp L) (hm:m<32*L) (hw:Pq.wd Q (m/32)=w) :
    ((BitVec.ofInt (IntKind.bits .u32) (w:Int) ||| BitVec.ofInt (IntKind.bits .u32) ((2^(m%32):Nat):Int)).toNat=w+2^(m%32))∧w+2^(m%32)<4294967296∧2^(m%32)<4294967296∧(rw' L Q).set (m/32) ((w+2^(m%32):Nat):Int)=rw' L (Q+2^m):=by
  have hs:m%32<32:=Nat.mod_lt _ (by decide)
  have hmm:m=m%32+32*(m/32):=(Nat.mod_add_div m 32).symm
  have e2:2^m=2^(m%32)*Pq.bp (m/32):=by
    rw[bp_pow,←Nat.pow_add,←hmm]
  have hwl:w<4294967296:=by rw[←hw];exact Pq.wd_lt _ _
  have hwd:2^(m%32+1)∣w:=by
    obtain ⟨t,ht⟩:=hd
    have e3:Q=(2^(m%32+1)*t)*Pq.bp (m/32):=by
      rw[ht,Nat.pow_succ,e2,Nat.pow_succ]
      simp only[Nat.mul_assoc,Nat.mul_comm,Nat.mul_left_comm]
    have hp:4294967296=2^(m%32+1)*2^(31-m%32):=by rw[←Nat.pow_add,show m%32+1+(31-m%32)=32 by omega]
    have:w=2^(m%32+1)*(t%2^(31-m%32)):=by
      rw[←hw]
      unfold Pq.wd
      rw[e3,Nat.mul_div_cancel _ (Pq.bp_pos _),hp,Nat.mul_mod_mul_left]
    rw[this]
    exact Nat.dvd_mul_right _ _
  have hps:=Nat.two_pow_pos (m%32)
  have es:2^(m%32+1)=2*2^(m%32):=by rw[Nat.pow_succ,Nat.mul_comm]
  have hs31:2^(m%32)≤2147483648:=by
    rw[show 2147483648=2^31 from rfl];exact Nat.pow_le_pow_right (by decide) (by omega)
  have hsum:w+2^(m%32)<4294967296:=by
    obtain ⟨q,hq⟩:=hwd
    have hp:4294967296=2^(m%32+1)*2^(31-m%32):=by rw[←Nat.pow_add,show m%32+1+(31-m%32)=32 by omega]
    rw[hq,hp]at hwl
    have hql:=Nat.lt_of_mul_lt_mul_left hwl
    have:2^(m%32+1)*q+2^(m%32+1)≤2^(m%32+1)*2^(31-m%32):=by rw[←Nat.mul_succ];exact Nat.mul_le_mul_left _ hql
    rw[hq,hp]
    omega
  refine ⟨?_,hsum,by omega,?_⟩
  · obtain ⟨q,hq⟩:=hwd
    have c1:(BitVec.ofInt (IntKind.bits .u32) (w:Int)).toNat=w:=by
      rw[BitVec.toNat_ofInt]
      show ((w:Int)%4294967296).toNat=_
      omega
    have c2:(BitVec.ofInt (IntKind.bits .u32) ((2^(m%32):Nat):Int)).toNat=2^(m%32):=by
      rw[BitVec.toNat_ofInt]
      show (((2^(m%32):Nat):Int)%4294967296).toNat=_
      generalize 2^(m%32)=z at *
      omega
    rw[BitVec.toNat_or,c1,c2,hq,←Nat.two_pow_add_eq_or_of_lt (by omega) q]
  · refine rw_set hq (by omega) (by omega) (by omega) ?_
    rw[hw,e2]
    have:((w+2^(m%32):Nat):Int)-(w:Int)=((2^(m%32):Nat):Int):=by omega
    rw[this,Int.natCast_add,Int.natCast_mul (2^(m%32)),Int.mul_comm]
def outDiv (x:RSpec.X spDiv) (y:RSpec.Y spDiv) (g:RSpec.G spDiv):T (Exit×List Av×RSpec.Y spDiv×RSpec.G spDiv):=
  match g with
  | none=>.fail
  | some r=>.need (-1≤x.2.2.1∧x.2.2.1<32*(List.length r.1:Int)∧x.2.2.1≤10000000∧Words x.1∧0<List.length x.1∧List.length x.1≤500000∧(x.2.1:List Int)=mg (valL x.2.1)∧List.length x.2.1≤1000000∧valL x.2.1<valL x.1*2^(x.2.2.1+1).toNat∧2^(x.2.2.1+1).toNat∣valL r.1∧valL r.1+valL x.2.1/valL x.1<Pq.bp (List.length r.1)∧Words r.1)
      (.ret (.exit 0,[.one (.ds (.int .u32) (mg (valL x.2.1%valL x.1)))],y,some (rw' (List.length r.1) (valL r.1+valL x.2.1/valL x.1),r.2)))
theorem pdivL_core (b r : List Int) (i : Int) (y : RSpec.Y spDiv) (xs : List Int) (cap : Nat) (Q : Exit × List Av × RSpec.Y spDiv × RSpec.G spDiv → Prop) (h : (outDiv (b, r, i, ()) y (some (xs, cap))).wp Q) : (tr_pdivL ((b, r, i, ()), y, (xs, cap))).wp fun r' => match r' with
      | .again x' y' g'=>(x'.2.2.1+1).toNat<(i+1).toNat∧(outDiv x' y' g').wp Q
      | .out e avs y' g'=>Q (e,avs,y',g'):=by
  unfold tr_pdivL
  unfold outDiv at h ⊢
  simp only[T.wp]at h ⊢
  dsimp only [El,vts,spDiv]at h ⊢
  obtain ⟨⟨i0,iL,i1,wb,lb0,lb,mr,lr,hlt,hd,hfit,wx⟩,hq⟩:=h
  obtain ⟨L,hL⟩ : ∃ L,xs.length=L:=⟨_,rfl⟩
  obtain ⟨V,hV⟩ : ∃ V,valL xs=V:=⟨_,rfl⟩
  have hxs:xs=rw' L V:=rw_of wx hL hV
  rw[hL]at iL hfit hq
  rw[hV]at hd hfit hq
  have hVL:V<Pq.bp L:=Nat.lt_of_le_of_lt (Nat.le_add_right _ _) hfit
  have rv : ∀ {q:Nat},q<Pq.bp L→valL (rw' L q)=q:=fun h=>rw_val h
  subst hxs
  have hB:0<valL b:=Nat.pos_of_ne_zero fun h0=>by rw[h0,Nat.zero_mul]at hlt;omega
  refine ⟨fun hge=>?_,fun hge=>?_⟩
  · have hge:=of_decide_eq_true hge
    obtain ⟨m,hm⟩ : ∃ m:Nat,i=m:=⟨i.toNat,by omega⟩
    subst hm
    rw[show ((m:Int)+1).toNat=m+1 by omega]at hlt hd
    have e1:IntKind.i64.wrap ((m:Int)-1)=(m:Int)-1:=IntWalk.i64_in _ (by omega)
    have e2:((m:Int)-1+1).toNat=m:=by omega
    have e3:IntKind.i64.wrap (Int.tdiv (m:Int) 32)=((m/32:Nat):Int):=by
      rw[Int.tdiv_eq_ediv_of_nonneg (by omega),IntWalk.i64_in _ (by omega)];omega
    have e4:IntKind.u64.wrap (Int.tmod (m:Int) 32)=((m%32:Nat):Int):=by
      rw[Int.tmod_eq_emod_of_nonneg (by omega),w_u64 (by omega)];omega
    have e5:min (m%32) (IntKind.bits .u32)=m%32:=by
      show min (m%32) 32=m%32
      omega
    obtain ⟨o1,o2,o3,o4⟩:=div_step hd hVL (by omega) rfl
    have e6 : ∀ z:Nat,z<4294967296→IntKind.u32.wrap (z:Int)=z:=fun z hz=>by rw[w_32];omega
    have e7:IntKind.u32.wrap (1*2^(m%32))=((2^(m%32):Nat):Int):=by
      rw[Int.one_mul]
      have:(2:Int)^(m%32)=((2^(m%32):Nat):Int):=by rw[Int.natCast_pow];rfl
      rw[this,e6 _ o3]
    have hsl:(mg (valL b*2^m)).length≤1000000:=by
      have hb:=val_words wb
      have h2:=(shl_lt (i:=b.length) (k:=m/32) (s:=m%32) hb (by omega)).2
      rw[bp_pow (m/32),Nat.mul_assoc,←Nat.pow_add,show m%32+32*(m/32)=m by omega]at h2
      have:=mg_len.1 h2
      omega
    have hcz:decide (Pq.cz (valL r) (valL b*2^m:Nat)≥0)=decide (valL b*2^m≤valL r):=by
      rw[decide_eq_decide]
      unfold Pq.cz
      split
      · omega
      · split <;> omega
    simp only[Int.toNat_natCast,val_mg,hcz,e1,e2,e3,e4,e5,e7,rw_len,List.length_set]
    refine ⟨⟨wb,lb0,by omega,by omega,by omega⟩,⟨mr,trivial,lr,hsl⟩,fun hle=>?_,fun hgt=>?_⟩
    · have hle:=of_decide_eq_true hle
      refine ⟨⟨mr,trivial,lr,hle⟩,by decide,by decide,⟨by omega,by omega⟩,_,by omega,rw_get (by omega),by decide,by omega,⟨by omega,by omega⟩,by omega,⟨trivial,trivial⟩,?_⟩
      rw[o1,e6 _ o2,o4]
      have hdiv:valL r/valL b=2^m+(valL r-valL b*2^m)/valL b:=by
        conv=>lhs;rw[show valL r=(valL r-valL b*2^m)+valL b*2^m by omega]
        rw[Nat.add_mul_div_left _ _ hB,Nat.add_comm]
      have hmod:valL r%valL b=(valL r-valL b*2^m)%valL b:=by
        conv=>lhs;rw[show valL r=(valL r-valL b*2^m)+valL b*2^m by omega]
        rw[Nat.add_mul_mod_self_left]
      have hV2:V+2^m<Pq.bp L:=by
        rw[hdiv,←Nat.add_assoc]at hfit
        exact Nat.lt_of_le_of_lt (Nat.le_add_right _ _) hfit
      rw[rv hV2]
      rw[hdiv]at hfit hq
      rw[hmod,←Nat.add_assoc]at hq
      have hle2:valL r-valL b*2^m≤valL r:=Nat.sub_le _ _
      have hml:(mg (valL r-valL b*2^m)).length≤1000000:=by
        refine mg_len.1 (Nat.lt_of_le_of_lt hle2 ?_)
        rw[mg_len,←mr];exact lr
      rw[Nat.pow_succ,Nat.mul_comm (2^m) 2,Nat.mul_left_comm]at hlt
      refine ⟨by omega,⟨by omega,by omega,by omega,wb,lb0,lb,trivial,hml,by omega,?_,by rw[Nat.add_assoc];exact hfit,rw_words _ _⟩,hq⟩
      refine Nat.dvd_add ?_ (Nat.dvd_refl _)
      exact Nat.dvd_trans ⟨2,by rw[Nat.pow_succ]⟩ hd
    · have hgt:=of_decide_eq_false hgt
      rw[rv hVL]
      refine ⟨⟨trivial,trivial⟩,by omega,⟨by omega,by omega,by omega,wb,lb0,lb,mr,lr,by omega,?_,hfit,rw_words _ _⟩,hq⟩
      exact Nat.dvd_trans ⟨2,by rw[Nat.pow_succ]⟩ hd
  · have hge:=of_decide_eq_false hge
    rw[show (i+1).toNat=0 by omega,Nat.pow_zero,Nat.mul_one]at hlt
    rw[Nat.div_eq_of_lt hlt,Nat.mod_eq_of_lt hlt,Nat.add_zero,←mr]at hq
    exact ⟨⟨trivial,trivial⟩,hq⟩
theorem pdivL_ok:LoopOk Tryz.prog 0 (bodyOf Tryz.f116 0) (spDiv.run outDiv):=
  loopR_ok (E:=E31) (L:=fun _=>none) mixed 0 (loops_none _ _ _) spDiv (Nat.zero_le _) outDiv (fun x _ _=>(x.2.2.1+1).toNat) (by
    rintro ⟨b,r,i,⟨⟩⟩ y g Q h
    match g,h with
    | some (xs,cap),h =>
      rw[tr_pdivL_eq ((b,r,i,()),y,(xs,cap))]
      exact pdivL_core b r i y xs cap Q h
    | none,h=>exact h.elim)
noncomputable def lpDiv:Loops:=manyL [(7,spDiv.run outDiv)]
noncomputable def tr_pdivmod (x:Els [(false,.sl (.int .u32)),(false,.sl (.int .u32))]):T Av:=
 .need (x.1=mg (valL (x.1))∧List.length (x.1)≤(1000000:Nat)) (.need (x.2.1=mg (valL x.2.1)∧List.length x.2.1≤(1000000:Nat)) (.ite (decide (IntKind.wrap .i64 ((↑(Pq.bitn (valL (x.1))):Int)-(↑(Pq.bitn (valL x.2.1)):Int))<(0:Int)))
    (.ret (.tup [(.one (.v (Go.Value.slice Option.none (0:Nat) (0:Nat)))),(.one (.ds (Cd.int .u32) (x.1)))]))
    (.need ((32:Int)≠(0:Int)) (.need ((0:Int)≤IntKind.wrap .i64 (IntKind.wrap .i64 (Int.tdiv (IntKind.wrap .i64 ((↑(Pq.bitn (valL (x.1))):Int)-(↑(Pq.bitn (valL x.2.1)):Int))) (32:Int))+(1:Int))∧IntKind.wrap .i64 (IntKind.wrap .i64 (Int.tdiv (IntKind.wrap .i64 ((↑(Pq.bitn (valL (x.1))):Int)-(↑(Pq.bitn (valL x.2.1)):Int))) (32:Int))+(1:Int))=IntKind.wrap .i64 (IntKind.wrap .i64 (Int.tdiv (IntKind.wrap .i64 ((↑(Pq.bitn (valL (x.1))):Int)-(↑(Pq.bitn (valL x.2.1)):Int))) (32:Int))+(1:Int))∧(nat_lit 3+(1:Nat))*Int.toNat (IntKind.wrap .i64 (IntKind.wrap .i64 (Int.tdiv (IntKind.wrap .i64 ((↑(Pq.bitn (valL (x.1))):Int)-(↑(Pq.bitn (valL x.2.1)):Int))) (32:Int))+(1:Int)))≤(281474976710656:Nat)∧Int.toNat (IntKind.wrap .i64 (IntKind.wrap .i64 (Int.tdiv (IntKind.wrap .i64 ((↑(Pq.bitn (valL (x.1))):Int)-(↑(Pq.bitn (valL x.2.1)):Int))) (32:Int))+(1:Int)))≤Go.maxLen) (.need (Int.toNat (IntKind.wrap .i64 (IntKind.wrap .i64 (Int.tdiv (IntKind.wrap .i64 ((↑(Pq.bitn (valL (x.1))):Int)-(↑(Pq.bitn (valL x.2.1)):Int))) (32:Int))+(1:Int)))=List.length (List.replicate (Int.toNat (IntKind.wrap .i64 (IntKind.wrap .i64 (Int.tdiv (IntKind.wrap .i64 ((↑(Pq.bitn (valL (x.1))):Int)-(↑(Pq.bitn (valL x.2.1)):Int))) (32:Int))+(1:Int)))) (0:Int))∧Int.toNat (IntKind.wrap .i64 (IntKind.wrap .i64 (Int.tdiv (IntKind.wrap .i64 ((↑(Pq.bitn (valL (x.1))):Int)-(↑(Pq.bitn (valL x.2.1)):Int))) (32:Int))+(1:Int)))=Int.toNat (IntKind.wrap .i64 (IntKind.wrap .i64 (Int.tdiv (IntKind.wrap .i64 ((↑(Pq.bitn (valL (x.1))):Int)-(↑(Pq.bitn (valL x.2.1)):Int))) (32:Int))+(1:Int)))) (.need ((-1:El (Cd.int .i64))≤IntKind.wrap .i64 ((↑(Pq.bitn (valL (x.1))):Int)-(↑(Pq.bitn (valL x.2.1)):Int))∧IntKind.wrap .i64 ((↑(Pq.bitn (valL (x.1))):Int)-(↑(Pq.bitn (valL x.2.1)):Int))<(32:El (Cd.int .i64))*(↑(List.length (List.replicate (Int.toNat (IntKind.wrap .i64 (IntKind.wrap .i64 (Int.tdiv (IntKind.wrap .i64 ((↑(Pq.bitn (valL (x.1))):Int)-(↑(Pq.bitn (valL x.2.1)):Int))) (32:Int))+(1:Int)))) (0:Int))):Int)∧IntKind.wrap .i64 ((↑(Pq.bitn (valL (x.1))):Int)-(↑(Pq.bitn (valL x.2.1)):Int))≤(10000000:El (Cd.int .i64))∧Words x.2.1∧(0:Nat)<List.length x.2.1∧List.length x.2.1≤(500000:Nat)∧x.1=mg (valL (x.1))∧List.length (x.1)≤(1000000:Nat)∧valL (x.1)<valL x.2.1*(2:Nat)^Int.toNat (IntKind.wrap .i64 ((↑(Pq.bitn (valL (x.1))):Int)-(↑(Pq.bitn (valL x.2.1)):Int))+(1:El (Cd.int .i64)))∧(2:Nat)^Int.toNat (IntKind.wrap .i64 ((↑(Pq.bitn (valL (x.1))):Int)-(↑(Pq.bitn (valL x.2.1)):Int))+(1:El (Cd.int .i64)))∣valL (List.replicate (Int.toNat (IntKind.wrap .i64 (IntKind.wrap .i64 (Int.tdiv (IntKind.wrap .i64 ((↑(Pq.bitn (valL (x.1))):Int)-(↑(Pq.bitn (valL x.2.1)):Int))) (32:Int))+(1:Int)))) (0:Int))∧valL (List.replicate (Int.toNat (IntKind.wrap .i64 (IntKind.wrap .i64 (Int.tdiv (IntKind.wrap .i64 ((↑(Pq.bitn (valL (x.1))):Int)-(↑(Pq.bitn (valL x.2.1)):Int))) (32:Int))+(1:Int)))) (0:Int))+valL (x.1)/valL x.2.1<Pq.bp (List.length (List.replicate (Int.toNat (IntKind.wrap .i64 (IntKind.wrap .i64 (Int.tdiv (IntKind.wrap .i64 ((↑(Pq.bitn (valL (x.1))):Int)-(↑(Pq.bitn (valL x.2.1)):Int))) (32:Int))+(1:Int)))) (0:Int)))∧Words (List.replicate (Int.toNat (IntKind.wrap .i64 (IntKind.wrap .i64 (Int.tdiv (IntKind.wrap .i64 ((↑(Pq.bitn (valL (x.1))):Int)-(↑(Pq.bitn (valL x.2.1)):Int))) (32:Int))+(1:Int)))) (0:Int))) (.need (List.length (rw' (List.length (List.replicate (Int.toNat (IntKind.wrap .i64 (IntKind.wrap .i64 (Int.tdiv (IntKind.wrap .i64 ((↑(Pq.bitn (valL (x.1))):Int)-(↑(Pq.bitn (valL x.2.1)):Int))) (32:Int))+(1:Int)))) (0:Int))) (valL (List.replicate (Int.toNat (IntKind.wrap .i64 (IntKind.wrap .i64 (Int.tdiv (IntKind.wrap .i64 ((↑(Pq.bitn (valL (x.1))):Int)-(↑(Pq.bitn (valL x.2.1)):Int))) (32:Int))+(1:Int)))) (0:Int))+valL (x.1)/valL x.2.1))≤List.length (rw' (List.length (List.replicate (Int.toNat (IntKind.wrap .i64 (IntKind.wrap .i64 (Int.tdiv (IntKind.wrap .i64 ((↑(Pq.bitn (valL (x.1))):Int)-(↑(Pq.bitn (valL x.2.1)):Int))) (32:Int))+(1:Int)))) (0:Int))) (valL (List.replicate (Int.toNat (IntKind.wrap .i64 (IntKind.wrap .i64 (Int.tdiv (IntKind.wrap .i64 ((↑(Pq.bitn (valL (x.1))):Int)-(↑(Pq.bitn (valL x.2.1)):Int))) (32:Int))+(1:Int)))) (0:Int))+valL (x.1)/valL x.2.1))) (.need (lenOk (List.length (List.take (List.length (rw' (List.length (List.replicate (Int.toNat (IntKind.wrap .i64 (IntKind.wrap .i64 (Int.tdiv (IntKind.wrap .i64 ((↑(Pq.bitn (valL (x.1))):Int)-(↑(Pq.bitn (valL x.2.1)):Int))) (32:Int))+(1:Int)))) (0:Int))) (valL (List.replicate (Int.toNat (IntKind.wrap .i64 (IntKind.wrap .i64 (Int.tdiv (IntKind.wrap .i64 ((↑(Pq.bitn (valL (x.1))):Int)-(↑(Pq.bitn (valL x.2.1)):Int))) (32:Int))+(1:Int)))) (0:Int))+valL (x.1)/valL x.2.1))) (rw' (List.length (List.replicate (Int.toNat (IntKind.wrap .i64 (IntKind.wrap .i64 (Int.tdiv (IntKind.wrap .i64 ((↑(Pq.bitn (valL (x.1))):Int)-(↑(Pq.bitn (valL x.2.1)):Int))) (32:Int))+(1:Int)))) (0:Int))) (valL (List.replicate (Int.toNat (IntKind.wrap .i64 (IntKind.wrap .i64 (Int.tdiv (IntKind.wrap .i64 ((↑(Pq.bitn (valL (x.1))):Int)-(↑(Pq.bitn (valL x.2.1)):Int))) (32:Int))+(1:Int)))) (0:Int))+valL (x.1)/valL x.2.1))))) (.ret (.tup [(.one (.ds (Cd.int .u32) (trimmed (List.take (List.length (rw' (List.length (List.replicate (Int.toNat (IntKind.wrap .i64 (IntKind.wrap .i64 (Int.tdiv (IntKind.wrap .i64 ((↑(Pq.bitn (valL (x.1))):Int)-(↑(Pq.bitn (valL x.2.1)):Int))) (32:Int))+(1:Int)))) (0:Int))) (valL (List.replicate (Int.toNat (IntKind.wrap .i64 (IntKind.wrap .i64 (Int.tdiv (IntKind.wrap .i64 ((↑(Pq.bitn (valL (x.1))):Int)-(↑(Pq.bitn (valL x.2.1)):Int))) (32:Int))+(1:Int)))) (0:Int))+valL (x.1)/valL x.2.1))) (rw' (List.length (List.replicate (Int.toNat (IntKind.wrap .i64 (IntKind.wrap .i64 (Int.tdiv (IntKind.wrap .i64 ((↑(Pq.bitn (valL (x.1))):Int)-(↑(Pq.bitn (valL x.2.1)):Int))) (32:Int))+(1:Int)))) (0:Int))) (valL (List.replicate (Int.toNat (IntKind.wrap .i64 (IntKind.wrap .i64 (Int.tdiv (IntKind.wrap .i64 ((↑(Pq.bitn (valL (x.1))):Int)-(↑(Pq.bitn (valL x.2.1)):Int))) (32:Int))+(1:Int)))) (0:Int))+valL (x.1)/valL x.2.1)))))),(.one (.ds (Cd.int .u32) (mg (valL (x.1)%valL x.2.1))))]))))))))))
theorem tr_pdivmod_eq (x:Els [(false,.sl (.int .u32)),(false,.sl (.int .u32))]):fnP E31d lpDiv Tryz.f116 (encs [(false,.sl (.int .u32)),(false,.sl (.int .u32))] x)=tr_pdivmod x:=by kernel_rfl
theorem val_con_w {P:Program} {E:Env P} {L:Loops} {f:FuncId} {fn:Func} (hm:P.follows .mixedOrders=true) (hf:P.funcs[f]?=some fn) (hL : ∀ c,fn.body=some c→LoopsOk P 0 L c) (ts:List (Bool×Cd)) (pre:Els ts→Prop) (F:Els ts→Av)
    (h : ∀ x,pre x→(fnP E L fn (encs ts x)).wp (fun a => ∀ w R σ v,AvIs w R σ a v→AvIs w R σ (F x) v)):ConOk P f [] (pureRun' ts fun x=>.need (pre x) (.ret (F x))):=by
  refine con_weaken (con_ok (E:=E) (L:=L) hm hf hL ts (fun x=>fnP E L fn (encs ts x)) (fun x Q h=>h)) fun args m Q hq=>?_
  unfold pureRun' at hq ⊢
  split at hq
  · rw[T.wp_bind]at hq ⊢
    exact T.wp_mono (fun a ha=>⟨_,hq.2,ha⟩) (h _ hq.1)
  · exact hq.elim
theorem nil_av2 {w:World} {R:Nat→Prop} {σ:List Nat} {c:Cd} {a:Av} {v:Value} (h:AvIs w R σ (.tup [.one (.v (.slice none 0 0)),a]) v):AvIs w R σ (.tup [.one (.ds c []),a]) v:=by
  cases h with
  | tup us hl hi =>
    refine .tup us hl fun i x u hx hu=>?_
    match i,hx with
    | 0,rfl =>
      have:=hi 0 _ u rfl hu
      rw[val_of this rfl]
      exact .one rfl (.dn .nil)
    | i+1,hx=>exact hi (i+1) x u hx hu
theorem bitn_lt (x:Nat):x<2^Pq.bitn x:=Pq.bitn_le.1 (Nat.le_refl _)
theorem bitn_ge {x:Nat} (h:x≠0):2^(Pq.bitn x-1)≤x:=Nat.not_lt.1 fun h'=>by
  have:=Pq.bitn_le.2 h'
  have h0:Pq.bitn x≠0:=fun e=>h (Pq.bitn_eq0.1 e)
  omega
theorem bitn_mg {x n:Nat} (h:(mg x).length≤n):Pq.bitn x≤32*n:=by
  have:=mg_len.2 h
  rw[bp_pow]at this
  exact Pq.bitn_le.2 this
noncomputable def con_pdivmod:Con Tryz.prog:=⟨116,[],_,cf_pdivmod,val_con_w (E:=E31d) (L:=lpDiv) mixed Tryz.func116 (many_loops (by kernel_rfl) (by simp) (fun i p hp=>by
    match i,hp with
    | 0,hp=>cases hp;exact pdivL_ok
    | i+1,hp=>simp at hp)) [(false,.sl (.int .u32)),(false,.sl (.int .u32))] (fun x=>(x.1:List Int)=mg (valL x.1)∧(x.2.1:List Int)=mg (valL x.2.1)∧List.length x.1≤100000∧List.length x.2.1≤100000∧valL x.2.1≠0) (fun x=>.tup [.one (.ds (.int .u32) (mg (valL x.1/valL x.2.1))),.one (.ds (.int .u32) (mg (valL x.1%valL x.2.1)))]) fun x hx=>by
  rw[tr_pdivmod_eq]
  obtain ⟨a,b,u⟩:=x
  revert a b
  intro (a:List Int) (b:List Int) (hx:a=mg (valL a)∧b=mg (valL b)∧a.length≤100000∧b.length≤100000∧valL b≠0)
  obtain ⟨ma,mb,la,lb,hb⟩:=hx
  have wb:Words b:=by rw[mb];exact mg_words _
  have la':(mg (valL a)).length≤100000:=by rw[←ma];exact la
  have lb':(mg (valL b)).length≤100000:=by rw[←mb];exact lb
  have lb0:0<b.length:=Nat.pos_of_ne_zero fun h0=>hb (by
    have:b=[]:=List.length_eq_zero_iff.1 h0
    rw[this];rfl)
  have ba:=bitn_mg la'
  have bb:=bitn_mg lb'
  have a1:=bitn_lt (valL a)
  have b1:=bitn_ge hb
  have bb0:Pq.bitn (valL b)≠0:=fun e=>hb (Pq.bitn_eq0.1 e)
  unfold tr_pdivmod
  simp only[T.wp]
  dsimp only [El]
  rw[IntWalk.i64_in ((Pq.bitn (valL a):Int)-Pq.bitn (valL b)) (by omega)]
  refine ⟨⟨ma,by omega⟩,⟨mb,by omega⟩,fun hlt=>?_,fun hge=>?_⟩
  · have hlt:=of_decide_eq_true hlt
    have hab:valL a<valL b:=by
      refine Nat.lt_of_lt_of_le a1 (Nat.le_trans (Nat.pow_le_pow_right (by decide) ?_) b1)
      omega
    rw[Nat.div_eq_of_lt hab,Nat.mod_eq_of_lt hab,mg_zero,←ma]
    exact fun w R σ v hv=>nil_av2 hv
  · have hge:=of_decide_eq_false hge
    obtain ⟨n,hn⟩ : ∃ n:Nat,(Pq.bitn (valL a):Int)-Pq.bitn (valL b)=n:=⟨Pq.bitn (valL a)-Pq.bitn (valL b),by omega⟩
    simp only[hn]
    have e1:IntKind.i64.wrap (IntKind.i64.wrap (Int.tdiv (n:Int) 32)+1)=((n/32+1:Nat):Int):=by
      rw[Int.tdiv_eq_ediv_of_nonneg (by omega),IntWalk.i64_in ((n:Int)/32) (by omega),IntWalk.i64_in _ (by omega)];omega
    have etk : ∀ Q,List.take (n/32+1) (rw' (n/32+1) Q)=rw' (n/32+1) Q:=fun Q=>List.take_of_length_le (by rw[rw_len];exact Nat.le_refl _)
    have e2:((n:Int)+1).toNat=n+1:=by omega
    simp only[e1,Int.toNat_natCast,List.length_replicate,rw_len,etk,val_zero,Nat.zero_add,e2]
    have hlt:valL a<valL b*2^(n+1):=by
      refine Nat.lt_of_lt_of_le a1 (Nat.le_trans ?_ (Nat.mul_le_mul_right _ b1))
      rw[←Nat.pow_add]
      exact Nat.pow_le_pow_right (by decide) (by omega)
    have hq:valL a/valL b<Pq.bp (n/32+1):=by
      refine Nat.lt_of_lt_of_le ((Nat.div_lt_iff_lt_mul (Nat.pos_of_ne_zero hb)).2 (by rw[Nat.mul_comm];exact hlt)) ?_
      rw[bp_pow]
      exact Nat.pow_le_pow_right (by decide) (by omega)
    refine ⟨by decide,⟨by omega,trivial,by omega,by unfold Go.maxLen;omega⟩,⟨trivial,trivial⟩,⟨by omega,by omega,by omega,wb,lb0,by omega,ma,by omega,hlt,⟨0,by simp⟩,hq,words_zero _⟩,Nat.le_refl _,by unfold lenOk;omega,?_⟩
    rw[trimmed_mg (rw_words _ _),rw_val hq]
    exact fun w R σ v hv=>hv⟩
noncomputable def E32:Env Tryz.prog:=E31.add [con_pdivmod]
noncomputable def tr_pgcdL (x:LSpec.X spGcd×LSpec.Y spGcd):T (Rd spGcd):=
 .ite (decide ((↑(List.length x.1.2.1):Int)>(0:Int)))
  (.need (x.1.1=mg (valL x.1.1)∧x.1.2.1=mg (valL x.1.2.1)∧List.length x.1.1≤(100000:Nat)∧List.length x.1.2.1≤(100000:Nat)∧valL x.1.2.1≠(0:Nat)) (.ret (.again (x.1.2.1,(mg (valL x.1.1%valL x.1.2.1),())) ())))
  (.ret (.out (Go.Exit.exit (0:Nat)) [(.one (.ds (Cd.int .u32) x.1.1))] ()))
theorem tr_pgcdL_eq (x:LSpec.X spGcd×LSpec.Y spGcd):LSpec.round spGcd E32 (fun _=>none) (bodyOf Tryz.f115 0) x.1 x.2=tr_pgcdL x:=by kernel_rfl
noncomputable def tr_ptiny (x:Els [(true,cF)]):T Av:=
 .need ((0:El (Cd.int .i64))≤(1:Int)∧(1:Int)≤(32:El (Cd.int .i64))) (.ite (tz x.1.1.2.1 x.1.2.2.1 ((32:Nat)-Int.toNat (1:Int)))
   (.need ((0 : Int) ≤ (0 : Int) ∧ (0 : Int) < (↑(32 : Nat) : Int)) (.need ((0 : Int) < (32 : Int)) (.need ((0 : Int) ≤ (0 : Int) ∧ (0 : Int) < (↑(32 : Nat) : Int)) (.need ((0 : Int) < (32 : Int)) (.ite (decide (IntKind.wrap .i64 (↑(Pq.wd x.1.1.2.1 (Int.toNat (0 : Int))) : Int) ≥ (2147483648 : Int)))
        (.ret (.tup [(.one (.v (.int .i64 ((0:Int))))),(.one (.v (.int .i64 ((0:Int))))),(.one (.v (.bool (false))))]))
        (.ite (decide (IntKind.wrap .i64 (↑(Pq.wd x.1.2.2.1 (Int.toNat (0:Int))):Int)≥(2147483648:Int)))
         (.ret (.tup [(.one (.v (.int .i64 ((0:Int))))),(.one (.v (.int .i64 ((0:Int))))),(.one (.v (.bool (false))))]))
         (.ite (IntKind.wrap .i64 (↑(Pq.wd x.1.2.2.1 (Int.toNat (0:Int))):Int)==(0:Int))
          (.ret (.tup [(.one (.v (.int .i64 ((0:Int))))),(.one (.v (.int .i64 ((0:Int))))),(.one (.v (.bool (false))))]))
          (.ite x.1.2.1
           (.ret (.tup [(.one (.v (.int .i64 ((0:Int))))),(.one (.v (.int .i64 ((0:Int))))),(.one (.v (.bool (false))))]))
           (.ite x.1.1.1
            (.ite (IntKind.wrap .i64 (↑(Pq.wd x.1.1.2.1 (Int.toNat (0:Int))):Int)==(0:Int))
             (.ret (.tup [(.one (.v (.int .i64 ((0:Int))))),(.one (.v (.int .i64 ((0:Int))))),(.one (.v (.bool (false))))]))
             (.need ((-9223372036854775808:El (Cd.int .i64))<IntKind.wrap .i64 (↑(Pq.wd x.1.1.2.1 (Int.toNat (0:Int))):Int)∧IntKind.wrap .i64 (↑(Pq.wd x.1.1.2.1 (Int.toNat (0:Int))):Int)<(9223372036854775808:El (Cd.int .i64))∧(-9223372036854775808:El (Cd.int .i64))<IntKind.wrap .i64 (↑(Pq.wd x.1.2.2.1 (Int.toNat (0:Int))):Int)∧IntKind.wrap .i64 (↑(Pq.wd x.1.2.2.1 (Int.toNat (0:Int))):Int)<(9223372036854775808:El (Cd.int .i64))) (.ite ((↑(Nat.gcd (Int.natAbs (IntKind.wrap .i64 (↑(Pq.wd x.1.1.2.1 (Int.toNat (0:Int))):Int))) (Int.natAbs (IntKind.wrap .i64 (↑(Pq.wd x.1.2.2.1 (Int.toNat (0:Int))):Int)))):Int) != (1:Int))
               (.ret (.tup [(.one (.v (.int .i64 ((0:Int))))),(.one (.v (.int .i64 ((0:Int))))),(.one (.v (.bool (false))))]))
               (.ite x.1.1.1
                (.ret (.tup [(.one (.v (.int .i64 (IntKind.wrap .i64 ((0:Int)-IntKind.wrap .i64 (↑(Pq.wd x.1.1.2.1 (Int.toNat (0:Int))):Int)))))),(.one (.v (.int .i64 (IntKind.wrap .i64 (↑(Pq.wd x.1.2.2.1 (Int.toNat (0:Int))):Int))))),(.one (.v (.bool (true))))]))
                (.ret (.tup [(.one (.v (.int .i64 (IntKind.wrap .i64 (↑(Pq.wd x.1.1.2.1 (Int.toNat (0:Int))):Int))))),(.one (.v (.int .i64 (IntKind.wrap .i64 (↑(Pq.wd x.1.2.2.1 (Int.toNat (0:Int))):Int))))),(.one (.v (.bool (true))))]))))))
            (.need ((-9223372036854775808:El (Cd.int .i64))<IntKind.wrap .i64 (↑(Pq.wd x.1.1.2.1 (Int.toNat (0:Int))):Int)∧IntKind.wrap .i64 (↑(Pq.wd x.1.1.2.1 (Int.toNat (0:Int))):Int)<(9223372036854775808:El (Cd.int .i64))∧(-9223372036854775808:El (Cd.int .i64))<IntKind.wrap .i64 (↑(Pq.wd x.1.2.2.1 (Int.toNat (0:Int))):Int)∧IntKind.wrap .i64 (↑(Pq.wd x.1.2.2.1 (Int.toNat (0:Int))):Int)<(9223372036854775808:El (Cd.int .i64))) (.ite ((↑(Nat.gcd (Int.natAbs (IntKind.wrap .i64 (↑(Pq.wd x.1.1.2.1 (Int.toNat (0:Int))):Int))) (Int.natAbs (IntKind.wrap .i64 (↑(Pq.wd x.1.2.2.1 (Int.toNat (0:Int))):Int)))):Int) != (1:Int))
              (.ret (.tup [(.one (.v (.int .i64 ((0:Int))))),(.one (.v (.int .i64 ((0:Int))))),(.one (.v (.bool (false))))]))
              (.ite x.1.1.1
               (.ret (.tup [(.one (.v (.int .i64 (IntKind.wrap .i64 ((0:Int)-IntKind.wrap .i64 (↑(Pq.wd x.1.1.2.1 (Int.toNat (0:Int))):Int)))))),(.one (.v (.int .i64 (IntKind.wrap .i64 (↑(Pq.wd x.1.2.2.1 (Int.toNat (0:Int))):Int))))),(.one (.v (.bool (true))))]))
               (.ret (.tup [(.one (.v (.int .i64 (IntKind.wrap .i64 (↑(Pq.wd x.1.1.2.1 (Int.toNat (0:Int))):Int))))),(.one (.v (.int .i64 (IntKind.wrap .i64 (↑(Pq.wd x.1.2.2.1 (Int.toNat (0:Int))):Int))))),(.one (.v (.bool (true))))]))))))))))))))
   (.ret (.tup [(.one (.v (.int .i64 ((0:Int))))),(.one (.v (.int .i64 ((0:Int))))),(.one (.v (.bool (false))))])))
theorem tr_ptiny_eq (x:Els [(true,cF)]):fnP E32 lpTiny Tryz.f85 (encs [(true,cF)] x)=tr_ptiny x:=by kernel_rfl
def Tells (a b:Av):Prop := ∀ w R σ v,AvIs w R σ a v→AvIs w R σ b v
theorem tells_refl (a:Av):Tells a a:=fun _ _ _ _ h=>h
theorem tells_any (a:Av):Tells a .any:=fun _ _ _ _ _=>.any
theorem tells_kb {b:Bool}:Tells (.one (.v (.bool b))) (.one (.kb b)):=fun w R σ v h=>by
  rw[val_of h rfl];exact .one rfl (.kb .nil)
theorem tells_tup {l k:List Av} (hl:l.length=k.length) (h : ∀ (i:Nat) (a b:Av),l[i]?=some a→k[i]?=some b→Tells a b):Tells (.tup l) (.tup k):=fun w R σ v hv=>by
  cases hv with
  | tup us hl2 hi =>
    refine .tup us (by omega) fun i x u hx hu=>?_
    have hlt:i<k.length:=(List.getElem?_eq_some_iff.1 hx).1
    have ha:l[i]?=some (l[i]'(by omega)):=List.getElem?_eq_getElem _
    exact h i _ x ha hx _ _ _ _ (hi i _ u ha hu)
theorem fork_con {P:Program} {E:Env P} {L:Loops} {f:FuncId} {fn:Func} (hm:P.follows .mixedOrders=true) (hf:P.funcs[f]?=some fn) (hL : ∀ c,fn.body=some c→LoopsOk P 0 L c) (ts:List (Bool×Cd)) (b:Els ts→Bool) (F D:Els ts→Av)
    (h : ∀ x,(fnP E L fn (encs ts x)).wp (fun a=>(b x=true→Tells a (F x))∧(b x=false→Tells a (D x)))):ConOk P f [] (pureRun' ts fun x=>.ite (b x) (.ret (F x)) (.ret (D x))):=by
  refine con_weaken (con_ok (E:=E) (L:=L) hm hf hL ts (fun x=>fnP E L fn (encs ts x)) (fun x Q h=>h)) fun args m Q hq=>?_
  unfold pureRun' at hq ⊢
  split at hq
  · rw[T.wp_bind]at hq ⊢
    refine T.wp_mono (fun a ha=>?_) (h _)
    rename_i x _
    cases hb:b x with
    | true=>exact ⟨_,hq.1 hb,ha.1 hb⟩
    | false=>exact ⟨_,hq.2 hb,ha.2 hb⟩
  · exact hq.elim
def outGcd (x:LSpec.X spGcd) (y:LSpec.Y spGcd):T (Exit×List Av×LSpec.Y spGcd):=
  .need ((x.1:List Int)=mg (valL x.1)∧(x.2.1:List Int)=mg (valL x.2.1)∧List.length x.1≤100000∧List.length x.2.1≤100000) (.ret (.exit 0,[.one (.ds (.int .u32) (mg (Nat.gcd (valL x.1) (valL x.2.1))))],()))
theorem pgcdL_core (a b : List Int) (Q : Exit × List Av × LSpec.Y spGcd → Prop) (h : (outGcd (a, b, ()) ()).wp Q) : (tr_pgcdL ((a, b, ()), ())).wp fun r => match r with
      | .again x' y'=>valL x'.2.1<valL b∧(outGcd x' y').wp Q
      | .out e avs y'=>Q (e,avs,y'):=by
  unfold tr_pgcdL
  unfold outGcd at h ⊢
  simp only[T.wp]at h ⊢
  dsimp only [El,vts,spGcd]at h ⊢
  obtain ⟨⟨ma,mb,la,lb⟩,hq⟩:=h
  refine ⟨fun hgt=>?_,fun hle=>?_⟩
  · have hgt:=of_decide_eq_true hgt
    have h0:valL b≠0:=fun h0=>by rw[h0,mg_zero]at mb;rw[mb]at hgt;simp at hgt
    have hlt:valL a%valL b<valL b:=Nat.mod_lt _ (Nat.pos_of_ne_zero h0)
    rw[Nat.gcd_comm,Nat.gcd_rec,Nat.gcd_comm]at hq
    rw[val_mg]
    refine ⟨⟨ma,mb,la,lb,h0⟩,hlt,⟨mb,rfl,lb,?_⟩,hq⟩
    refine mg_len.1 (Nat.lt_trans hlt ?_)
    rw[mg_len,←mb];exact lb
  · have hle:=of_decide_eq_false hle
    have h0:b=[]:=List.length_eq_zero_iff.1 (by omega)
    subst h0
    rw[val_nil,Nat.gcd_zero_right,←ma]at hq
    exact hq
theorem pgcdL_ok:LoopOk Tryz.prog 0 (bodyOf Tryz.f115 0) (spGcd.run outGcd):=
  loop_ok (E:=E32) (L:=fun _=>none) mixed 0 (loops_none _ _ _) spGcd (Nat.zero_le _) outGcd (fun x _=>valL x.2.1) (by
    rintro ⟨a,b,⟨⟩⟩ ⟨⟩ Q h
    rw[tr_pgcdL_eq ((a,b,()),())]
    exact pgcdL_core a b Q h)
noncomputable def lpGcd:Loops:=oneL 2 (spGcd.run outGcd)
def TyF (x:F):Prop:=x.1.2.1<2147483648∧x.2.2.1<2147483648∧x.2.1=false∧x.2.2.1≠0∧¬ (x.1.1=true∧x.1.2.1=0)∧Nat.gcd x.1.2.1 x.2.2.1=1
instance (x:F):Decidable (TyF x):=by unfold TyF;infer_instance
def tyB (x:F):Bool:=decide (TyF x)
theorem ty_leaf {x:F} {a:Av} (h:¬ TyF x):(tyB x=true→Tells (.tup [aI .i64 0,aI .i64 0,aB false]) a)∧(tyB x=false→Tells (.tup [aI .i64 0,aI .i64 0,aB false]) (.tup [.any,.any,.one (.kb false)])):=by
  refine ⟨fun h'=>absurd (of_decide_eq_true h') h,fun _=>tells_tup rfl fun i a b ha hb=>?_⟩
  match i,ha,hb with
  | 0,_,rfl=>exact tells_any _
  | 1,_,rfl=>exact tells_any _
  | 2,rfl,rfl=>exact tells_kb
theorem ty_yes {x:F} (h:TyF x) {p q:Int} (hp:p=zW x.1) (hq:q=zW x.2):(tyB x=true→Tells (.tup [aI .i64 p,aI .i64 q,aB true]) (.tup [aI .i64 (zW x.1),aI .i64 (zW x.2),.one (.kb true)]))∧(tyB x=false→Tells (.tup [aI .i64 p,aI .i64 q,aB true]) (.tup [.any,.any,.one (.kb false)])):=by
  subst hp hq
  refine ⟨fun _=>tells_tup rfl fun i a b ha hb=>?_,fun h'=>absurd h (of_decide_eq_false h')⟩
  match i,ha,hb with
  | 0,rfl,rfl=>exact tells_refl _
  | 1,rfl,rfl=>exact tells_refl _
  | 2,rfl,rfl=>exact tells_kb
noncomputable def con_ptiny:Con Tryz.prog:=⟨85,[],_,cf_ptiny,fork_con (E:=E32) (L:=lpTiny) mixed Tryz.func85 (one_loop ptinyL_ok (by kernel_rfl)) [(true,cF)] (fun x=>tyB x.1) (fun x=>.tup [aI .i64 (zW x.1.1),aI .i64 (zW x.1.2),.one (.kb true)]) (fun x=>.tup [.any,.any,.one (.kb false)]) fun x=>by
  rw[tr_ptiny_eq]
  obtain ⟨⟨⟨s,n⟩,⟨t,d⟩⟩,u⟩:=x
  revert s n t d
  intro (s:Bool) (n:Amt) (t:Bool) (d:Amt)
  have ets:=tz_spec n.2 d.2 31 (by decide)
  rw[show Pq.bp (32-31)=4294967296 from rfl]at ets
  unfold tr_ptiny
  simp only[T.wp]
  refine ⟨by decide,fun htz=>?_,fun htz=>ty_leaf fun h=>?_⟩
  · have htz:=ets.1 htz
    have e0:Pq.wd n.1 (Int.toNat 0)=n.1:=Pq.wd_small htz.1
    have e1:Pq.wd d.1 (Int.toNat 0)=d.1:=Pq.wd_small htz.2
    have w0:IntKind.i64.wrap ((n.1:Nat):Int)=n.1:=IntWalk.i64_in _ (by omega)
    have w1:IntKind.i64.wrap ((d.1:Nat):Int)=d.1:=IntWalk.i64_in _ (by omega)
    simp only[e0,e1,w0,w1]
    have w2:n.1<2147483648→IntKind.i64.wrap (0-((n.1:Nat):Int)) = - n.1:=fun h=>by rw[IntWalk.i64_in _ (by omega)];omega
    have eg : ∀ a b:Nat,Nat.gcd (Int.natAbs (a:Int)) (Int.natAbs (b:Int))=Nat.gcd a b:=fun a b=>by rw[Int.natAbs_natCast,Int.natAbs_natCast]
    simp only[eg]
    have bnd:decide ((n.1:Int)≥2147483648)=false→decide ((d.1:Int)≥2147483648)=false→(-9223372036854775808:Int)<(n.1:Int)∧(n.1:Int)<9223372036854775808∧(-9223372036854775808:Int)<(d.1:Int)∧(d.1:Int)<9223372036854775808:=fun h1 h2=>by
      have h1:=of_decide_eq_false h1
      have h2:=of_decide_eq_false h2
      omega
    refine ⟨by decide,by decide,by decide,by decide,fun h1=>ty_leaf fun h=>?_,fun h1=>⟨fun h2=>ty_leaf fun h=>?_,fun h2=>⟨fun h3=>ty_leaf fun h=>?_,fun h3=>⟨fun h4=>ty_leaf fun h=>?_,fun h4=>⟨fun h5=>⟨fun h6=>ty_leaf fun h=>?_,fun h6=>⟨bnd h1 h2,fun h7=>ty_leaf fun h=>?_,fun h7=>⟨fun h8=>?_,fun h8=>?_⟩⟩⟩,fun h5=>⟨bnd h1 h2,fun h7=>ty_leaf fun h=>?_,fun h7=>⟨fun h8=>?_,fun h8=>?_⟩⟩⟩⟩⟩⟩⟩
    · have h1:=of_decide_eq_true h1
      have g1:n.1<2147483648:=h.1
      omega
    · have h2:=of_decide_eq_true h2
      have g1:d.1<2147483648:=h.2.1
      omega
    · exact h.2.2.2.1 (by simpa using h3)
    · have:=h.2.2.1
      dsimp only at this
      rw[this]at h4;cases h4
    · exact h.2.2.2.2.1 ⟨h5,by simpa using h6⟩
    · have:=h.2.2.2.2.2
      dsimp only at this
      rw[this]at h7
      simp at h7
    · have h1:=of_decide_eq_false h1
      have h2:=of_decide_eq_false h2
      have h4:t=false:=h4
      have h5:s=true:=h5
      subst h4 h5
      have g6:n.1≠0:=by simpa using h6
      have g7:¬ ((Nat.gcd n.1 d.1:Nat):Int)≠1:=by simpa using h7
      have g8:Nat.gcd n.1 d.1=1:=by omega
      have hT:TyF ((true,n),(false,d)):=⟨by show n.1<_;omega,by show d.1<_;omega,rfl,by simpa using h3,fun h=>g6 h.2,g8⟩
      exact ty_yes hT (by rw[w2 (by omega)];rfl) rfl
    · have h5:s=true:=h5
      rw[h5]at h8;cases h8
    · have:=h.2.2.2.2.2
      dsimp only at this
      rw[this]at h7
      simp at h7
    · have h5:s=false:=h5
      rw[h5]at h8;cases h8
    · have h1:=of_decide_eq_false h1
      have h2:=of_decide_eq_false h2
      have h4:t=false:=h4
      have h5:s=false:=h5
      subst h4 h5
      have g7:¬ ((Nat.gcd n.1 d.1:Nat):Int)≠1:=by simpa using h7
      have g8:Nat.gcd n.1 d.1=1:=by omega
      have hT:TyF ((false,n),(false,d)):=⟨by show n.1<_;omega,by show d.1<_;omega,rfl,by simpa using h3,fun h=>Bool.noConfusion h.1,g8⟩
      exact ty_yes hT rfl rfl
  · have g1:n.1<2147483648:=h.1
    have g2:d.1<2147483648:=h.2.1
    have:tz n.1 d.1 31=true:=ets.2 ⟨by omega,by omega⟩
    rw[show (32-Int.toNat 1)=31 from rfl]at htz
    rw[this]at htz;cases htz⟩
noncomputable def E33:Env Tryz.prog:=E32.add [con_ptiny]
end Go.Proofs.YtmcbljjgkmkhcaaGreatDoor
