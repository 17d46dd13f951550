/- The digests stand for the functions. -/
import Derived.Test.YtpaeaccmddffjaaGreatDoorRg11
import Derived.Test.YtpaeaccmddffjaaGreatDoorRg10
import Derived.Test.YtpaeaccmddffjaaGreatDoorSp3
import Derived.Test.YtpaeaccmddffjaaGreatDoorProg

set_option linter.all false
namespace Go.Rf
set_option maxHeartbeats 8000000
noncomputable def qam (f:Nat):Bool:=match T0.funs f with | some a=>qf5 Go.Proofs.Tryz.prog f a | none=>true
theorem zhw:(List.range' 0 20).all qam=true:=by decide +kernel
theorem zhv:(List.range' 20 20).all qam=true:=by decide +kernel
theorem zhu:(List.range' 40 20).all qam=true:=by decide +kernel
theorem zht:(List.range' 60 20).all qam=true:=by decide +kernel
theorem zhs:(List.range' 80 20).all qam=true:=by decide +kernel
theorem zhr:(List.range' 100 20).all qam=true:=by decide +kernel
theorem zhq:(List.range' 120 20).all qam=true:=by decide +kernel
theorem zhp:(List.range' 140 20).all qam=true:=by decide +kernel
theorem zho:(List.range' 160 20).all qam=true:=by decide +kernel
set_option maxRecDepth 100000 in
theorem zhx:(List.range' 0 180).all qam=true:=by
 rw[show List.range' 0 180=List.range' 0 20++(List.range' 20 20++(List.range' 40 20++(List.range' 60 20++(List.range' 80 20++(List.range' 100 20++(List.range' 120 20++(List.range' 140 20++(List.range' 160 20)))))))) from by decide];simp only[List.all_append,zhw,zhv,zhu,zht,zhs,zhr,zhq,zhp,zho,Bool.and_self]
theorem zhk:∀ f af,T0.funs f=some af→qf5 Go.Proofs.Tryz.prog f af=true:=by
 intro f af h
 by_cases hf:f < 174
 ·have k:qam f=true:=List.all_eq_true.1 zhx f (List.mem_range'_1.2 ⟨Nat.zero_le _,Nat.lt_of_lt_of_le (m:=174) hf (by decide)⟩);unfold qam at k;rw[h] at k;exact k
 ·have:T0.funs f=none:=if_pos (Nat.not_lt.1 hf);rw[this] at h;cases h
theorem qet:Ko Go.Proofs.Tryz.prog 17 N5=true:=by decide +kernel
set_option maxRecDepth 20000 in
theorem zhl:∀ f r,T0.recs f=some r→Ko Go.Proofs.Tryz.prog f r=true:=by
 intro f r h;unfold T0 at h;dsimp only at h;split at h
 ·cases h; exact qet
 ·cases h
end Go.Rf
